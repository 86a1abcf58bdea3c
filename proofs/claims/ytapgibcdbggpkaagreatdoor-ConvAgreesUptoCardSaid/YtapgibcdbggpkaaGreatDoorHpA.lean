/- Decimal digits: what they say, and a number's own. No program in sight. Layer 8: which keys are indexes; the digits of every number. No program in sight. Layer 8: when two numbers are the same one. -/
import Derived.Test.YtapgibcdbggpkaaGreatDoorBase
import Derived.Lib.AtoiAll
import Derived.Lib.ItoaNum
import Derived.Test.YtapgibcdbggpkaaGreatDoorUtfPure
import Derived.Test.YtapgibcdbggpkaaGreatDoorChecked
import Derived.Stop.Asserts
namespace Go.Proofs.YtapgibcdbggpkaaGreatDoor
open Go Go.RowKit
set_option linter.all false
def digB (c : UInt8) : Bool := decide (48 ≤ c.toNat) && decide (c.toNat ≤ 57)
def digitsB (l : List UInt8) : Bool := l.all digB
/-- what digits say behind a number -/
def dnext (a : Nat) (c : UInt8) : Nat := a * 10 + (c.toNat - 48)
def dval (acc : Nat) (l : List UInt8) : Nat := l.foldl dnext acc
theorem dval_nil (a : Nat) : dval a [] = a := rfl
theorem dval_cons (a : Nat) (c : UInt8) (r : List UInt8) : dval a (c :: r) = dval (a * 10 + (c.toNat - 48)) r := by
  unfold dval
  rw [List.foldl_cons, dnext]
theorem dval_append (x y : List UInt8) (a : Nat) : dval a (x ++ y) = dval (dval a x) y := by
  unfold dval
  rw [List.foldl_append]
theorem dval_ge : ∀ (l : List UInt8) (a : Nat), a ≤ dval a l
  | [], a => Nat.le_refl a
  | c :: r, a => by
    have := dval_ge r (a * 10 + (c.toNat - 48))
    rw [dval_cons]
    omega
theorem dig_of (u : Nat) (h : u < 10) : (UInt8.ofNat (48 + u)).toNat = 48 + u := by rw [UInt8.toNat_ofNat']; omega
theorem decDigits_facts : ∀ u : Nat, dval 0 (Lib.decDigits u) = u ∧ digitsB (Lib.decDigits u) = true ∧ ∃ c r, Lib.decDigits u = c :: r ∧ (0 < u → c.toNat ≠ 48) := by
  intro u
  induction u using Nat.strongRecOn with
  | _ u ih =>
    rw [Lib.decDigits]
    by_cases h : u < 10
    · rw [dif_pos h]
      have e := dig_of u h
      refine ⟨?_, ?_, _, _, rfl, fun h0 => by rw [e]; omega⟩
      · rw [dval_cons, dval_nil, e]; omega
      · simp only [digitsB, List.all_cons, List.all_nil, digB, e]; simp; omega
    · rw [dif_neg h]
      obtain ⟨h1, h2, c, r, h3, h4⟩ := ih (u / 10) (by omega)
      have e := dig_of (u % 10) (by omega)
      refine ⟨?_, ?_, c, r ++ [UInt8.ofNat (48 + u % 10)], by rw [h3]; rfl, fun _ => h4 (by omega)⟩
      · rw [dval_append, h1, dval_cons, dval_nil, e]; omega
      · unfold digitsB at h2 ⊢
        rw [List.all_append, h2]
        simp only [List.all_cons, List.all_nil, digB, e]; simp; omega
theorem dec_of_dval : ∀ (n : Nat) (l : List UInt8), l.length = n → l ≠ [] → digitsB l = true → (l.head?.map (·.toNat) ≠ some 48 ∨ l.length = 1) → Lib.decDigits (dval 0 l) = l := by
  intro n
  induction n with
  | zero => intro l hl hne; exact absurd (List.length_eq_zero_iff.1 hl) hne
  | succ n ih =>
    intro l hl hne hd hh
    obtain ⟨q, c, rfl⟩ : ∃ q c, l = q ++ [c] := ⟨l.dropLast, l.getLast hne, (List.dropLast_concat_getLast hne).symm⟩
    unfold digitsB at hd
    rw [List.all_append, Bool.and_eq_true] at hd
    obtain ⟨hq, hc⟩ := hd
    have hc : 48 ≤ c.toNat ∧ c.toNat ≤ 57 := by simpa [digB] using hc
    have hcc : UInt8.ofNat (48 + (c.toNat - 48)) = c := by rw [show 48 + (c.toNat - 48) = c.toNat by omega]; simp
    rw [dval_append]
    have hlast : dval (dval 0 q) [c] = dval 0 q * 10 + (c.toNat - 48) := by rw [dval_cons, dval_nil]
    rw [hlast]
    cases hq0 : q with
    | nil =>
      subst hq0
      have : dval 0 ([] : List UInt8) = 0 := rfl
      rw [this, Nat.zero_mul, Nat.zero_add, Lib.decDigits, dif_pos (by omega), hcc]
      rfl
    | cons d q' =>
      have hd48 : d.toNat ≠ 48 := by
        rcases hh with hh | hh
        · rw [hq0] at hh; simpa using hh
        · rw [hq0] at hh; simp at hh
      have hdd : 48 ≤ d.toNat ∧ d.toNat ≤ 57 := by
        rw [hq0, List.all_cons, Bool.and_eq_true] at hq
        simpa [digB] using hq.1
      rw [← hq0]
      have hpos : 1 ≤ dval 0 q := by
        rw [hq0, dval_cons]
        have := dval_ge q' (0 * 10 + (d.toNat - 48))
        omega
      rw [Lib.decDigits, dif_neg (by omega)]
      have e1 : (dval 0 q * 10 + (c.toNat - 48)) / 10 = dval 0 q := by omega
      have e2 : (dval 0 q * 10 + (c.toNat - 48)) % 10 = c.toNat - 48 := by omega
      rw [e1, e2, hcc, ih q (by simpa using hl) (by rw [hq0]; simp) hq (.inl (by rw [hq0]; simpa using hd48))]
/-- digits with no 0 ahead that say at most 65535 -/
def portOf (p : List UInt8) : Option Int :=
  if p ≠ [] ∧ digitsB p = true ∧ p.head?.map (·.toNat) ≠ some 48 ∧ dval 0 p ≤ 65535 then some (dval 0 p) else none
end Go.Proofs.YtapgibcdbggpkaaGreatDoor
namespace Go.Proofs.YtapgibcdbggpkaaGreatDoor
open Go Go.RowKit
set_option linter.all false
abbrev Bytes := List UInt8
def unitsOf (l : List UInt8) : List Nat := (List.range (l.length / 2)).map (at16 l)
def wide8 (l : List UInt8) : List UInt8 := l.flatMap fun c => [0, c]
def keyOf (n : Int) : List UInt8 := wide8 (Lib.itoa n)
def badLen (l : List UInt8) : Bool := l.length % 2 != 0 || l.length == 0 || decide (20 < l.length)
/-- the number of digits' units; none stands ahead of it that is 0 -/
def idxL : List Nat → Nat → Bool → Option Nat
  | [], n, _ => some n
  | u :: r, n, z => if u < 48 ∨ 57 < u ∨ (z = true ∧ n = 0) then none else idxL r (n * 10 + (u - 48)) true
def dgL : List Nat → Nat → Option Nat
  | [], n => some n
  | u :: r, n => if u < 48 ∨ 57 < u then none else dgL r (n * 10 + (u - 48))
def most31 (o : Option Nat) : Option Nat := o.bind fun n => if 2147483647 < n then none else some n
def index (l : List UInt8) : Option Nat := if badLen l = true then none else most31 (idxL (unitsOf l) 0 false)
def rindex (l : List UInt8) : Option Nat := if badLen l = true then none else (dgL (unitsOf l) 0).bind fun n => if 2147483647 < n ∨ keyOf n ≠ l then none else some n
theorem unitsOf_len (l : List UInt8) : (unitsOf l).length = l.length / 2 := by simp [unitsOf]
theorem unitsOf_at (l : List UInt8) (i : Nat) (h : i < l.length / 2) : (unitsOf l)[i]? = some (at16 l i) := by simp [unitsOf, h]
theorem wide8_len (l : List UInt8) : (wide8 l).length = 2 * l.length := by
  induction l with
  | nil => rfl
  | cons c r ih => simp only [wide8, List.flatMap_cons, List.length_append, List.length_cons, List.length_nil] at ih ⊢; omega
theorem wide8_inj : ∀ {a b : List UInt8}, wide8 a = wide8 b → a = b
  | [], [], _ => rfl
  | [], c :: r, h => by simp [wide8] at h
  | c :: r, [], h => by simp [wide8] at h
  | c :: r, d :: s, h => by
    simp only [wide8, List.flatMap_cons, List.cons_append, List.nil_append, List.cons.injEq] at h
    obtain ⟨-, rfl, h⟩ := h
    rw [wide8_inj h]
theorem wide8_by8 : ∀ (l : List UInt8) (i : Nat), by8 (wide8 l) (2 * i) = 0 ∧ by8 (wide8 l) (2 * i + 1) = by8 l i
  | [], i => by simp [wide8, by8]
  | c :: r, 0 => by simp [wide8, by8]
  | c :: r, i + 1 => by
    have := wide8_by8 r i
    simp only [wide8, by8, List.flatMap_cons, List.cons_append, List.nil_append] at this ⊢
    rw [show 2 * (i + 1) = 2 * i + 1 + 1 by omega, show 2 * i + 1 + 1 + 1 = (2 * i + 1) + 1 + 1 by omega]
    simp only [List.getD_cons_succ]
    exact this
theorem units_wide8 (l : List UInt8) : unitsOf (wide8 l) = l.map (·.toNat) := by
  apply List.ext_getElem?
  intro i
  unfold unitsOf
  rw [wide8_len, Nat.mul_div_cancel_left _ (by decide)]
  by_cases h : i < l.length
  · obtain ⟨h1, h2⟩ := wide8_by8 l i
    have ha : at16 (wide8 l) i = l[i].toNat := by
      unfold at16
      rw [h1, h2]
      simp [by8, h]
    simp only [List.getElem?_map, List.getElem?_range h, Option.map_some, ha]
    simp [h]
  · simp [h]
/-- a text of even length is what its units say -/
theorem text_of_units (l : List UInt8) (h2 : l.length % 2 = 0) (h : ∀ u ∈ unitsOf l, u < 256) : l = wide8 ((unitsOf l).map UInt8.ofNat) := by
  apply List.ext_getElem?
  intro i
  have hlen : (wide8 ((unitsOf l).map UInt8.ofNat)).length = l.length := by rw [wide8_len, List.length_map, unitsOf_len]; omega
  by_cases hi : i < l.length
  · have key : by8 l i = by8 (wide8 ((unitsOf l).map UInt8.ofNat)) i := by
      obtain ⟨h3, h4⟩ := wide8_by8 ((unitsOf l).map UInt8.ofNat) (i / 2)
      have hu := unitsOf_at l (i / 2) (by omega)
      have hlt := h _ (List.mem_of_getElem? hu)
      have b0 := by8_lt l (2 * (i / 2))
      have b1 := by8_lt l (2 * (i / 2) + 1)
      unfold at16 at hlt hu
      rcases Nat.mod_two_eq_zero_or_one i with hm | hm
      · have e : 2 * (i / 2) = i := by omega
        rw [e] at h3 b0 hlt
        rw [h3]
        omega
      · have e : 2 * (i / 2) + 1 = i := by omega
        rw [e] at h4 b1
        rw [h4]
        have hv : by8 ((unitsOf l).map UInt8.ofNat) (i / 2) = (UInt8.ofNat (by8 l (2 * (i / 2)) * 256 + by8 l (2 * (i / 2) + 1))).toNat := by
          unfold by8
          rw [List.getD_eq_getElem?_getD, List.getElem?_map, hu]
          rfl
        rw [hv, UInt8.toNat_ofNat', e]
        omega
    have hl : l[i]? = some (l.getD i 0) := by rw [List.getElem?_eq_getElem hi]; simp [hi]
    have hr : (wide8 ((unitsOf l).map UInt8.ofNat))[i]? = some ((wide8 ((unitsOf l).map UInt8.ofNat)).getD i 0) := by rw [List.getElem?_eq_getElem (by rw [hlen]; exact hi)]; simp [hlen, hi]
    rw [hl, hr]
    congr 1
    exact UInt8.toNat_inj.1 key
  · rw [List.getElem?_eq_none (by omega), List.getElem?_eq_none (by omega)]
theorem dgL_some : ∀ (us : List Nat) (n : Nat), dgL us n = if (us.all fun u => decide (48 ≤ u) && decide (u ≤ 57)) = true then some (dval n (us.map UInt8.ofNat)) else none
  | [], n => by simp [dgL, dval]
  | u :: r, n => by
    rw [dgL]
    by_cases h : u < 48 ∨ 57 < u
    · rw [if_pos h, if_neg]
      simp only [List.all_cons, Bool.and_eq_true, decide_eq_true_eq]
      omega
    · rw [if_neg h, dgL_some r]
      have e : (UInt8.ofNat u).toNat = u := by rw [UInt8.toNat_ofNat']; omega
      simp only [List.all_cons, List.map_cons, dval_cons, e]
      have hu : (decide (48 ≤ u) && decide (u ≤ 57)) = true := by simp; omega
      rw [hu, Bool.true_and]
theorem idxL_pos : ∀ (us : List Nat) (n : Nat) (z : Bool), 0 < n → idxL us n z = dgL us n
  | [], n, z, _ => rfl
  | u :: r, n, z, h => by
    rw [idxL, dgL]
    by_cases hu : u < 48 ∨ 57 < u
    · rw [if_pos hu, if_pos (by omega)]
    · rw [if_neg hu, if_neg (by omega), idxL_pos r _ true (by omega)]
theorem idxL_dgL (us : List Nat) : idxL us 0 false = if us.head? = some 48 ∧ 2 ≤ us.length then none else dgL us 0 := by
  cases us with
  | nil => simp [idxL, dgL]
  | cons u r =>
    rw [idxL, dgL]
    by_cases hu : u < 48 ∨ 57 < u
    · rw [if_pos (by omega), if_pos hu]
      split <;> rfl
    · rw [if_neg (by rintro (h | h | h); omega; omega; cases h.1), if_neg hu]
      by_cases h0 : u = 48
      · subst h0
        cases r with
        | nil => simp [idxL, dgL]
        | cons v s => simp [idxL]
      · rw [idxL_pos _ _ _ (by omega), if_neg]
        simp [h0]
theorem index_rindex (l : List UInt8) : rindex l = index l := by
  unfold rindex index
  by_cases hb : badLen l = true
  · rw [if_pos hb, if_pos hb]
  rw [if_neg hb, if_neg hb, idxL_dgL]
  simp only [badLen, Bool.or_eq_true, bne_iff_ne, beq_iff_eq, decide_eq_true_eq, ne_eq, not_or, Decidable.not_not, Nat.not_lt] at hb
  have hul := unitsOf_len l
  rw [dgL_some]
  by_cases hall : ((unitsOf l).all fun u => decide (48 ≤ u) && decide (u ≤ 57)) = true
  · rw [if_pos hall]
    have hd : ∀ u ∈ unitsOf l, 48 ≤ u ∧ u ≤ 57 := fun u hu => by
      have := List.all_eq_true.1 hall u hu
      simpa using this
    have htx := text_of_units l hb.1.1 (fun u hu => by have := hd u hu; omega)
    have hdig : digitsB ((unitsOf l).map UInt8.ofNat) = true := by
      unfold digitsB
      rw [List.all_map, List.all_eq_true]
      intro u hu
      have := hd u hu
      have e : (UInt8.ofNat u).toNat = u := by rw [UInt8.toNat_ofNat']; omega
      simp [digB, e]
      omega
    generalize hbs : (unitsOf l).map UInt8.ofNat = bs at *
    have hbl : bs.length = l.length / 2 := by rw [← hbs, List.length_map, hul]
    have hne : bs ≠ [] := fun h => by rw [h] at hbl; simp at hbl; omega
    have hit : Lib.itoa ((dval 0 bs : Nat) : Int) = Lib.decDigits (dval 0 bs) := by rw [Lib.itoa, if_neg (by omega)]; rfl
    have hhead : (unitsOf l).head? = some 48 ↔ bs.head?.map (·.toNat) = some 48 := by
      rw [← hbs]
      cases hu : unitsOf l with
      | nil => simp
      | cons u r =>
        have := hd u (by rw [hu]; simp)
        simp only [List.head?_cons, List.map_cons, Option.map_some, Option.some.injEq]
        rw [UInt8.toNat_ofNat']
        omega
    have hkey : keyOf ((dval 0 bs : Nat) : Int) = l ↔ ¬ ((unitsOf l).head? = some 48 ∧ 2 ≤ (unitsOf l).length) := by
      unfold keyOf
      rw [hit]
      constructor
      · intro hk ⟨h1, h2⟩
        rw [htx] at hk
        have hk := wide8_inj hk
        obtain ⟨f1, f2, c, r, f3, f4⟩ := decDigits_facts (dval 0 bs)
        rw [hhead, ← hk, f3] at h1
        simp only [List.head?_cons, Option.map_some, Option.some.injEq] at h1
        by_cases h0 : 0 < dval 0 bs
        · exact f4 h0 h1
        · have hz : dval 0 bs = 0 := by omega
          rw [hz] at hk
          have : bs.length = 1 := by rw [← hk, Lib.decDigits_length, Lib.nDigits_small (by omega)]
          omega
      · intro h
        have hor : bs.head?.map (·.toNat) ≠ some 48 ∨ bs.length = 1 := by
          by_cases h1 : bs.head?.map (·.toNat) = some 48
          · right
            have h3 : ¬ 2 ≤ (unitsOf l).length := fun h2 => h ⟨hhead.2 h1, h2⟩
            have := List.length_pos_iff.2 hne
            omega
          · exact .inl h1
        rw [dec_of_dval _ bs rfl hne hdig hor, ← htx]
    by_cases hz : (unitsOf l).head? = some 48 ∧ 2 ≤ (unitsOf l).length
    · rw [if_pos hz]
      simp only [Option.bind_some, most31, Option.bind_none]
      rw [if_pos (.inr (fun e => hkey.1 e hz))]
    · rw [if_neg hz]
      simp only [Option.bind_some, most31]
      by_cases hm : 2147483647 < dval 0 bs
      · rw [if_pos (.inl hm), if_pos hm]
      · rw [if_neg (by rintro (h | h); exact hm h; exact h (hkey.2 hz)), if_neg hm]
  · rw [if_neg hall]
    split <;> rfl
/-- the index of a number's digits -/
theorem index_key (n : Int) (h0 : -9223372036854775808 ≤ n) (h1 : n ≤ 9223372036854775807) : index (keyOf n) = if 0 ≤ n ∧ n ≤ 2147483647 then some n.toNat else none := by
  by_cases hn : n < 0
  · rw [if_neg (by omega)]
    unfold index
    split
    · rfl
    · have e : keyOf n = wide8 (45 :: Lib.decDigits n.natAbs) := by unfold keyOf; rw [Lib.itoa, if_pos hn]
      rw [e, units_wide8]
      simp [idxL, most31]
  · obtain ⟨u, rfl⟩ := Int.eq_ofNat_of_zero_le (show 0 ≤ n by omega)
    rw [← index_rindex]
    have hit : Lib.itoa (u : Int) = Lib.decDigits u := by rw [Lib.itoa, if_neg (by omega)]; rfl
    obtain ⟨f1, f2, c, r, f3, f4⟩ := decDigits_facts u
    have hk : keyOf (u : Int) = wide8 (Lib.decDigits u) := by unfold keyOf; rw [hit]
    have hpos : 1 ≤ (Lib.decDigits u).length := by rw [f3]; simp
    have hall : ((Lib.decDigits u).map (·.toNat)).all (fun u => decide (48 ≤ u) && decide (u ≤ 57)) = true := by
      rw [List.all_map]
      exact f2
    have hmm : ((Lib.decDigits u).map (·.toNat)).map UInt8.ofNat = Lib.decDigits u := by
      rw [List.map_map]
      conv => rhs; rw [← List.map_id (Lib.decDigits u)]
      exact List.map_congr_left fun b _ => by simp
    unfold rindex
    by_cases hm : 2147483647 < u
    · have eR : (if (0 : Int) ≤ (u : Int) ∧ (u : Int) ≤ 2147483647 then some (u : Int).toNat else none) = none := if_neg (by omega)
      rw [eR]
      split
      · rfl
      · rw [hk, units_wide8, dgL_some, if_pos hall, hmm, f1]
        simp only [Option.bind_some]
        rw [if_pos (.inl hm)]
    · have hl10 : (Lib.decDigits u).length ≤ 10 := by
        rw [Lib.decDigits_length]
        have : ∀ (k v : Nat), v < 10 ^ (k + 1) → Lib.nDigits v ≤ k + 1 := by
          intro k
          induction k with
          | zero => intro v h; rw [Lib.nDigits_small (by simpa using h)]; exact Nat.le_refl _
          | succ k ih =>
            intro v h
            by_cases g : v < 10
            · rw [Lib.nDigits_small g]; omega
            · rw [Lib.nDigits_big g]
              have := ih (v / 10) (by rw [Nat.pow_succ] at h; omega)
              omega
        exact this 9 u (by omega)
      have hb : badLen (keyOf (u : Int)) = false := by
        rw [hk]
        unfold badLen
        rw [wide8_len]
        simp
        omega
      have eR : (if (0 : Int) ≤ (u : Int) ∧ (u : Int) ≤ 2147483647 then some (u : Int).toNat else none) = some u := by rw [if_pos (by omega)]; simp
      rw [hb, if_neg (by decide), eR, hk, units_wide8, dgL_some, if_pos hall, hmm, f1]
      simp only [Option.bind_some]
      rw [if_neg (by rintro (h | h); omega; exact h hk)]
end Go.Proofs.YtapgibcdbggpkaaGreatDoor
namespace Go.Proofs.YtapgibcdbggpkaaGreatDoor
open Go Go.RowKit Go.Stop Go.Extern.Stop
set_option linter.all false
def nanB (x : Nat) : Bool := FloatKind.f64.format.order x x != some Ordering.eq
def signB (x : Nat) : Bool := decide (9223372036854775808 ≤ x)
def eqB (x y : Nat) : Bool := FloatKind.f64.format.order x y == some Ordering.eq
def sameB (x y : Nat) : Bool := if nanB x || nanB y then nanB x && nanB y else eqB x y && (signB x == signB y)
set_option maxRecDepth 100000 in
theorem sign_any (x : Nat) (hx : x < 18446744073709551616) (w : World) : Calls Tryz.prog 74 #[.float .f64 x] w fun e w' => e = .returned (.bool (signB x)) ∧ w = w' := by
  have h6 := @run_callFunc_extern Tryz.prog 58 _ Go.Extern.MathFloatBits.float64bits Tryz.func58 (by kernel_rfl) (by kernel_rfl) (by kernel_rfl) (by kernel_rfl)
  have fb : ∀ w : World, (Go.Extern.MathFloatBits.float64bits #[.float .f64 x]).run Tryz.prog w = .ok (.int .u64 (x : Nat)) w := fun w => rfl
  by_cases hs : 9223372036854775808 ≤ x
  · have e : signB x = true := decide_eq_true hs
    have hw : IntKind.i64.wrap (x : Int) = (x : Int) - 18446744073709551616 := by
      unfold IntKind.wrap
      simp [IntKind.signed, IntKind.bits]
      omega
    have hd : decide ((x : Int) - 18446744073709551616 < 0) = true := decide_eq_true (by omega)
    rw [e]
    clear e hs
    go_enter Tryz.func74, Tryz.ntmps74
    go_wp2
    go_ret
    exact ⟨by simp, rfl⟩
  · have e : signB x = false := decide_eq_false hs
    have hw : IntKind.i64.wrap (x : Int) = (x : Int) := IntWalk.i64_in _ (by omega)
    have hd : decide ((x : Int) < 0) = false := decide_eq_false (by omega)
    rw [e]
    clear e hs
    go_enter Tryz.func74, Tryz.ntmps74
    go_wp2
    go_ret
    exact ⟨by simp, rfl⟩
set_option maxRecDepth 100000 in
theorem same_any (x y : Nat) (hx : x < 18446744073709551616) (hy : y < 18446744073709551616) (w : World) : Calls Tryz.prog 60 #[.float .f64 x, .float .f64 y] w fun e w' => e = .returned (.bool (sameB x y)) ∧ w = w' := by
  have S := fun w => sign_any x hx w
  have S' := fun w => sign_any y hy w
  have hR : sameB x y = if nanB x || nanB y then nanB x && nanB y else eqB x y && (signB x == signB y) := rfl
  rw [hR]
  clear hR
  obtain ⟨b1, t1⟩ : ∃ b1, nanB x = b1 := ⟨_, rfl⟩
  obtain ⟨b2, t2⟩ : ∃ b2, nanB y = b2 := ⟨_, rfl⟩
  obtain ⟨b3, t3⟩ : ∃ b3, eqB x y = b3 := ⟨_, rfl⟩
  rw [t1, t2, t3]
  generalize signB x = s1 at *
  generalize signB y = s2 at *
  have u1 : (FloatKind.f64.format.order x x != some Ordering.eq) = b1 := t1
  have u2 : (FloatKind.f64.format.order y y != some Ordering.eq) = b2 := t2
  have u3 : (FloatKind.f64.format.order x y == some Ordering.eq) = b3 := t3
  clear t1 t2 t3 hx hy
  rcases b1 with _ | _ <;> rcases b2 with _ | _ <;> rcases b3 with _ | _
  all_goals
    go_enter Tryz.func60, Tryz.ntmps60
    go_wp2_with (go_at_call 74; first | (refine (S _).mono ?_; rintro e w' ⟨rfl, rfl⟩) | (refine (S' _).mono ?_; rintro e w' ⟨rfl, rfl⟩))
    go_ret
    exact ⟨by simp, rfl⟩
end Go.Proofs.YtapgibcdbggpkaaGreatDoor
