/- The layer utf in plain Lean, the other way: units as characters, characters as bytes. The layer utf in plain Lean: joined texts, great and small letters twice. The layer utf in plain Lean: characters as bytes and back, units and back. -/
import Derived.Test.YtclaoeoofbobmaaGreatDoorUtfPure
namespace Go.Proofs.YtclaoeoofbobmaaGreatDoor
open Go Go.RowKit
set_option linter.all false
/-- a character's bytes -/
def enc (c : Nat) : List UInt8 :=
  if c < 128 then [UInt8.ofNat c]
  else if c < 2048 then [UInt8.ofNat (192 + c / 64), UInt8.ofNat (128 + c % 64)]
  else if c < 65536 then [UInt8.ofNat (224 + c / 4096), UInt8.ofNat (128 + c / 64 % 64), UInt8.ofNat (128 + c % 64)]
  else [UInt8.ofNat (240 + c / 262144), UInt8.ofNat (128 + c / 4096 % 64), UInt8.ofNat (128 + c / 64 % 64), UInt8.ofNat (128 + c % 64)]
@[go_sem] theorem enc_length_le (c : Nat) : (enc c).length ≤ 4 := by
  unfold enc
  repeat' split
  all_goals simp
/-- what the units from number i on begin with: a character, and how many units it takes -/
def nst (l : List UInt8) (i : Nat) : Nat × Nat :=
  if (55296 ≤ at16 l i ∧ at16 l i < 56320) ∧ i + 1 < l.length / 2 ∧ (56320 ≤ at16 l (i + 1) ∧ at16 l (i + 1) < 57344) then (65536 + (at16 l i - 55296) * 1024 + at16 l (i + 1) - 56320, 2)
  else if 55296 ≤ at16 l i ∧ at16 l i < 57344 then (65533, 1)
  else (at16 l i, 1)
theorem nst_pos (l : List UInt8) (i : Nat) : 1 ≤ (nst l i).2 := by
  unfold nst
  repeat' split
  all_goals simp
theorem nst_end (l : List UInt8) (i : Nat) (h : i < l.length / 2) : i + (nst l i).2 ≤ l.length / 2 := by
  unfold nst
  split
  · rename_i h'; show i + 2 ≤ _; omega
  · split <;> (show i + 1 ≤ _; omega)
/-- a character that may be -/
def okc (c : Nat) : Prop := c < 55296 ∨ (57344 ≤ c ∧ c ≤ 1114111)
theorem nst_ok (l : List UInt8) (i : Nat) : okc (nst l i).1 := by
  have h1 := at16_lt l i
  unfold nst okc
  split
  · rename_i h'; simp only; omega
  · split <;> (simp only; omega)
def narGo (l : List UInt8) (i : Nat) (acc : List UInt8) : List UInt8 :=
  if i < l.length / 2 then narGo l (i + (nst l i).2) (acc ++ enc (nst l i).1) else acc
termination_by l.length / 2 - i
decreasing_by have := nst_pos l i; omega
def narR (l : List UInt8) : List UInt8 × Nat := if l.length % 2 = 1 then ([], 11) else (narGo l 0 [], 0)
end Go.Proofs.YtclaoeoofbobmaaGreatDoor
namespace Go.Proofs.YtclaoeoofbobmaaGreatDoor
open Go Go.RowKit
set_option linter.all false
theorem at16_caseL (g : Bool) (l : List UInt8) : ∀ k i, i < k → at16 (caseL g l k) i = caseU g (at16 l i) := by
  intro k
  induction k with
  | zero => intro i h; omega
  | succ k ih =>
    intro i h
    have hl := caseL_length g l k
    by_cases hi : i < k
    · rw [← ih i hi]
      unfold at16
      rw [caseL_succ, by8_append, by8_append, if_pos (by omega), if_pos (by omega)]
    · obtain rfl : i = k := by omega
      have hu := caseU_lt g _ (at16_lt l i)
      have e0 : by8 (caseL g l (i + 1)) (2 * i) = caseU g (at16 l i) / 256 := by
        rw [caseL_succ, by8_append, if_neg (by omega), hl, show 2 * i - 2 * i = 0 by omega]
        show (UInt8.ofNat _).toNat = _
        rw [UInt8.toNat_ofNat']; omega
      have e1 : by8 (caseL g l (i + 1)) (2 * i + 1) = caseU g (at16 l i) % 256 := by
        rw [caseL_succ, by8_append, if_neg (by omega), hl, show 2 * i + 1 - 2 * i = 1 by omega]
        show (UInt8.ofNat _).toNat = _
        rw [UInt8.toNat_ofNat']; omega
      rw [at16, e0, e1]
      generalize caseU g (at16 l i) = u
      omega
theorem caseL_congr (g : Bool) (l m : List UInt8) : ∀ k, (∀ i, i < k → caseU g (at16 m i) = caseU g (at16 l i)) → caseL g m k = caseL g l k := by
  intro k
  induction k with
  | zero => intro _; rw [caseL_zero, caseL_zero]
  | succ k ih => intro h; rw [caseL_succ, caseL_succ, ih fun i hi => h i (by omega), h k (by omega)]
theorem caseU_caseU (g g' : Bool) (u : Nat) : caseU g' (caseU g u) = caseU g' u := by
  unfold caseU
  cases g <;> cases g' <;> simp only [Bool.false_eq_true, if_true, if_false]
  all_goals
    repeat' split
  all_goals omega
theorem caseL_caseL (g g' : Bool) (l : List UInt8) (k : Nat) : caseL g' (caseL g l k) k = caseL g' l k :=
  caseL_congr g' l _ k fun i hi => by rw [at16_caseL g l k i hi, caseU_caseU]
theorem by8_left (a b : List UInt8) (j : Nat) (h : j < a.length) : by8 (a ++ b) j = by8 a j := by rw [by8_append, if_pos h]
theorem by8_right (a b : List UInt8) (j : Nat) : by8 (a ++ b) (a.length + j) = by8 b j := by
  rw [by8_append, if_neg (by omega), show a.length + j - a.length = j by omega]
theorem contB_left (a b : List UInt8) (i : Nat) : ∀ k, i + k < a.length → contB (a ++ b) i k = contB a i k := by
  intro k
  induction k with
  | zero => intro _; rfl
  | succ k ih =>
    intro h
    show (contB (a ++ b) i k && (decide (128 ≤ by8 (a ++ b) (i + k + 1)) && decide (by8 (a ++ b) (i + k + 1) < 192))) = (contB a i k && (decide (128 ≤ by8 a (i + k + 1)) && decide (by8 a (i + k + 1) < 192)))
    rw [ih (by omega), by8_left a b _ (by omega)]
theorem valB_left (a b : List UInt8) (i c : Nat) : ∀ k, i + k < a.length → valB (a ++ b) i c k = valB a i c k := by
  intro k
  induction k with
  | zero => intro _; rfl
  | succ k ih =>
    intro h
    show valB (a ++ b) i c k * 64 + by8 (a ++ b) (i + k + 1) - 128 = valB a i c k * 64 + by8 a (i + k + 1) - 128
    rw [ih (by omega), by8_left a b _ (by omega)]
theorem contB_right (a b : List UInt8) (i : Nat) : ∀ k, contB (a ++ b) (a.length + i) k = contB b i k := by
  intro k
  induction k with
  | zero => rfl
  | succ k ih =>
    show (contB (a ++ b) (a.length + i) k && (decide (128 ≤ by8 (a ++ b) (a.length + i + k + 1)) && decide (by8 (a ++ b) (a.length + i + k + 1) < 192))) = (contB b i k && (decide (128 ≤ by8 b (i + k + 1)) && decide (by8 b (i + k + 1) < 192)))
    rw [ih, show a.length + i + k + 1 = a.length + (i + k + 1) by omega, by8_right]
theorem valB_right (a b : List UInt8) (i c : Nat) : ∀ k, valB (a ++ b) (a.length + i) c k = valB b i c k := by
  intro k
  induction k with
  | zero => rfl
  | succ k ih =>
    show valB (a ++ b) (a.length + i) c k * 64 + by8 (a ++ b) (a.length + i + k + 1) - 128 = valB b i c k * 64 + by8 b (i + k + 1) - 128
    rw [ih, show a.length + i + k + 1 = a.length + (i + k + 1) by omega, by8_right]
theorem chrN_left (a b : List UInt8) (i n c low : Nat) (hn : 1 ≤ n) (h : (chrN a i n c low).2 ≠ 0) : chrN (a ++ b) i n c low = chrN a i n c low := by
  have he := chrN_end a i n c low h
  have hb : i + n ≤ a.length := by
    unfold chrN at h
    split at h
    · rename_i hh; exact hh.1
    · exact absurd rfl h
  unfold chrN
  rw [contB_left a b i (n - 1) (by omega), valB_left a b i c (n - 1) (by omega), List.length_append]
  by_cases hc : contB a i (n - 1) = true ∧ low ≤ valB a i c (n - 1) ∧ valB a i c (n - 1) ≤ 1114111 ∧ ¬ (55296 ≤ valB a i c (n - 1) ∧ valB a i c (n - 1) < 57344)
  · rw [if_pos ⟨by omega, hc⟩, if_pos ⟨hb, hc⟩]
  · rw [if_neg (fun x => hc x.2), if_neg (fun x => hc x.2)]
theorem chrN_right (a b : List UInt8) (i n c low : Nat) : chrN (a ++ b) (a.length + i) n c low = chrN b i n c low := by
  unfold chrN
  rw [contB_right, valB_right, List.length_append, Nat.add_assoc]
  by_cases h : i + n ≤ b.length
  · simp only [h, show a.length + (i + n) ≤ a.length + b.length by omega]
  · rw [if_neg (fun x => h (by omega)), if_neg (fun x => h x.1)]
theorem chr_left (a b : List UInt8) (i : Nat) (h : (chr a i).2 ≠ 0) : chr (a ++ b) i = chr a i := by
  unfold chr at h ⊢
  split at h
  · exact absurd rfl h
  rename_i h0
  rw [if_neg h0, if_neg (by rw [List.length_append]; omega), by8_left a b i (by omega)]
  split at h
  · rename_i h1; rw [if_pos h1, if_pos h1]
  rename_i h1; rw [if_neg h1, if_neg h1]
  split at h
  · rename_i h2; rw [if_pos h2, if_pos h2]; exact chrN_left a b i 2 _ _ (by decide) h
  rename_i h2; rw [if_neg h2, if_neg h2]
  split at h
  · rename_i h3; rw [if_pos h3, if_pos h3]; exact chrN_left a b i 3 _ _ (by decide) h
  rename_i h3; rw [if_neg h3, if_neg h3]
  split at h
  · rename_i h4; rw [if_pos h4, if_pos h4]; exact chrN_left a b i 4 _ _ (by decide) h
  · exact absurd rfl h
theorem chr_right (a b : List UInt8) (i : Nat) : chr (a ++ b) (a.length + i) = chr b i := by
  unfold chr
  rw [by8_right, List.length_append, chrN_right, chrN_right, chrN_right]
  by_cases h : b.length ≤ i
  · rw [if_pos (by omega), if_pos h]
  · rw [if_neg (by omega), if_neg h]
/-- the units so far stand ahead of what comes -/
theorem wideGo_acc (l : List UInt8) (n : Nat) : ∀ i acc, l.length - i ≤ n → wideGo l i acc = (if (wideGo l i []).2.2 = 0 then (acc ++ (wideGo l i []).1, 0, 0) else wideGo l i []) := by
  induction n with
  | zero =>
    intro i acc h
    have e : ∀ acc, wideGo l i acc = (acc, 0, 0) := fun acc => by rw [wideGo, if_neg (by omega)]
    rw [e, e]
    simp
  | succ n ih =>
    intro i acc h
    rw [wideGo]
    by_cases hi : i < l.length
    · rw [if_pos hi]
      have e2 : wideGo l i [] = if (chr l i).2 = 0 then ([], i, 10) else wideGo l (i + (chr l i).2) ([] ++ units (chr l i).1) := by rw [wideGo, if_pos hi]
      by_cases hz : (chr l i).2 = 0
      · rw [if_pos hz] at e2 ⊢
        rw [e2]; simp
      · rw [if_neg hz] at e2 ⊢
        rw [e2, List.nil_append, ih _ (acc ++ units (chr l i).1) (by omega), ih _ (units (chr l i).1) (by omega)]
        by_cases hr : (wideGo l (i + (chr l i).2) []).2.2 = 0
        · rw [if_pos hr, if_pos hr, if_pos rfl, List.append_assoc]
        · rw [if_neg hr, if_neg hr, if_neg hr]
    · have e : ∀ acc, wideGo l i acc = (acc, 0, 0) := fun acc => by rw [wideGo, if_neg hi]
      rw [if_neg hi, e]
      simp
/-- a fault tells no units -/
theorem wideGo_shape (l : List UInt8) (n : Nat) : ∀ i acc, l.length - i ≤ n → acc.length % 2 = 0 → ((wideGo l i acc).2.2 = 0 ∧ (wideGo l i acc).2.1 = 0 ∧ (wideGo l i acc).1.length % 2 = 0) ∨ ((wideGo l i acc).1 = [] ∧ (wideGo l i acc).2.2 = 10 ∧ (chr l (wideGo l i acc).2.1).2 = 0) := by
  induction n with
  | zero =>
    intro i acc h ha
    rw [wideGo, if_neg (by omega)]
    exact .inl ⟨rfl, rfl, ha⟩
  | succ n ih =>
    intro i acc h ha
    rw [wideGo]
    by_cases hi : i < l.length
    · rw [if_pos hi]
      by_cases hz : (chr l i).2 = 0
      · rw [if_pos hz]; exact .inr ⟨rfl, rfl, hz⟩
      · rw [if_neg hz]
        exact ih _ _ (by omega) (by rw [List.length_append]; have : (units (chr l i).1).length % 2 = 0 := by { unfold units; split <;> simp [unit8] }; omega)
    · rw [if_neg hi]; exact .inl ⟨rfl, rfl, ha⟩
theorem wideGo_left (a b : List UInt8) (n : Nat) : ∀ i acc, a.length - i ≤ n → i ≤ a.length → (wideGo a i acc).2.2 = 0 → wideGo (a ++ b) i acc = wideGo (a ++ b) a.length (wideGo a i acc).1 := by
  induction n with
  | zero =>
    intro i acc h hi _
    obtain rfl : i = a.length := by omega
    rw [show wideGo a a.length acc = (acc, 0, 0) by rw [wideGo, if_neg (by omega)]]
  | succ n ih =>
    intro i acc h hi hz
    by_cases hlt : i < a.length
    · have e1 : wideGo a i acc = if (chr a i).2 = 0 then ([], i, 10) else wideGo a (i + (chr a i).2) (acc ++ units (chr a i).1) := by rw [wideGo, if_pos hlt]
      by_cases hc : (chr a i).2 = 0
      · rw [e1, if_pos hc] at hz; simp at hz
      · rw [if_neg hc] at e1
        have e2 : wideGo (a ++ b) i acc = wideGo (a ++ b) (i + (chr a i).2) (acc ++ units (chr a i).1) := by
          rw [wideGo, if_pos (by rw [List.length_append]; omega), chr_left a b i hc, if_neg hc]
        rw [e1] at hz ⊢
        rw [e2]
        exact ih _ _ (by omega) (chr_end a i hc) hz
    · obtain rfl : i = a.length := by omega
      rw [show wideGo a a.length acc = (acc, 0, 0) by rw [wideGo, if_neg (by omega)]]
theorem wideGo_right (a b : List UInt8) (n : Nat) : ∀ i acc, b.length - i ≤ n → (wideGo b i acc).2.2 = 0 → wideGo (a ++ b) (a.length + i) acc = wideGo b i acc := by
  induction n with
  | zero =>
    intro i acc h _
    rw [wideGo, if_neg (by rw [List.length_append]; omega), wideGo, if_neg (by omega)]
  | succ n ih =>
    intro i acc h hz
    by_cases hlt : i < b.length
    · have e1 : wideGo b i acc = if (chr b i).2 = 0 then ([], i, 10) else wideGo b (i + (chr b i).2) (acc ++ units (chr b i).1) := by rw [wideGo, if_pos hlt]
      by_cases hc : (chr b i).2 = 0
      · rw [e1, if_pos hc] at hz; simp at hz
      · rw [if_neg hc] at e1
        rw [e1] at hz ⊢
        rw [wideGo, if_pos (by rw [List.length_append]; omega), chr_right, if_neg hc, Nat.add_assoc]
        exact ih _ _ (by omega) hz
    · rw [wideGo, if_neg (by rw [List.length_append]; omega), wideGo, if_neg hlt]
theorem wideR_append (a b : List UInt8) (ha : (wideR a).2.2 = 0) (hb : (wideR b).2.2 = 0) : wideR (a ++ b) = ((wideR a).1 ++ (wideR b).1, 0, 0) := by
  unfold wideR at *
  rw [wideGo_left a b a.length 0 [] (by omega) (by omega) ha]
  have h := wideGo_acc b b.length 0 (wideGo a 0 []).1 (by omega)
  rw [if_pos hb] at h
  have h2 := wideGo_right a b b.length 0 (wideGo a 0 []).1 (by omega) (by rw [h])
  rw [Nat.add_zero] at h2
  rw [h2, h]
theorem wideR_shape (l : List UInt8) : ((wideR l).2.2 = 0 ∧ (wideR l).2.1 = 0 ∧ (wideR l).1.length % 2 = 0) ∨ ((wideR l).1 = [] ∧ (wideR l).2.2 = 10 ∧ (chr l (wideR l).2.1).2 = 0) :=
  wideGo_shape l l.length 0 [] (by omega) rfl
theorem wideGo_len (l : List UInt8) (n : Nat) : ∀ i acc, l.length - i ≤ n → (wideGo l i acc).1.length ≤ acc.length + 4 * n := by
  induction n with
  | zero => intro i acc h; rw [wideGo, if_neg (by omega)]; simp
  | succ n ih =>
    intro i acc h
    rw [wideGo]
    by_cases hi : i < l.length
    · rw [if_pos hi]
      by_cases hz : (chr l i).2 = 0
      · rw [if_pos hz]; simp
      · rw [if_neg hz]
        have h1 := ih (i + (chr l i).2) (acc ++ units (chr l i).1) (by omega)
        rw [List.length_append] at h1
        have h2 := units_length_le (chr l i).1
        omega
    · rw [if_neg hi]; show acc.length ≤ _; omega
theorem wideR_len (l : List UInt8) : (wideR l).1.length ≤ 4 * l.length := by
  have := wideGo_len l l.length 0 [] (by omega)
  simpa [wideR] using this
theorem findU_spec (l p : List UInt8) (n : Nat) : ∀ k i, l.length / 2 + 1 - i ≤ k →
    (findU l p n i = -1 ∧ ∀ j, i ≤ j → j + n ≤ l.length / 2 → sub l (2 * j) (2 * (j + n)) ≠ p) ∨
    (∃ m : Nat, findU l p n i = m ∧ i ≤ m ∧ m + n ≤ l.length / 2 ∧ sub l (2 * m) (2 * (m + n)) = p ∧ ∀ j, i ≤ j → j < m → sub l (2 * j) (2 * (j + n)) ≠ p) := by
  intro k
  induction k with
  | zero =>
    intro i h
    rw [findU, dif_neg (by omega)]
    exact .inl ⟨rfl, fun j h1 h2 => by omega⟩
  | succ k ih =>
    intro i h
    rw [findU]
    by_cases hi : i + n ≤ l.length / 2
    · rw [dif_pos hi]
      by_cases he : sub l (2 * i) (2 * (i + n)) = p
      · rw [if_pos he]
        exact .inr ⟨i, rfl, Nat.le_refl _, hi, he, fun j h1 h2 => by omega⟩
      · rw [if_neg he]
        rcases ih (i + 1) (by omega) with ⟨h1, h2⟩ | ⟨m, h1, h2, h3, h4, h5⟩
        · refine .inl ⟨h1, fun j h3 h4 => ?_⟩
          by_cases hj : j = i
          · subst hj; exact he
          · exact h2 j (by omega) h4
        · refine .inr ⟨m, h1, by omega, h3, h4, fun j h6 h7 => ?_⟩
          by_cases hj : j = i
          · subst hj; exact he
          · exact h5 j (by omega) h7
    · rw [dif_neg hi]
      exact .inl ⟨rfl, fun j h1 h2 => by omega⟩
end Go.Proofs.YtclaoeoofbobmaaGreatDoor
namespace Go.Proofs.YtclaoeoofbobmaaGreatDoor
open Go Go.RowKit
set_option linter.all false
theorem by8_zero (n : Nat) (t : List UInt8) (h : n < 256) : by8 (UInt8.ofNat n :: t) 0 = n := by
  show (UInt8.ofNat n).toNat = n
  rw [UInt8.toNat_ofNat']; omega
theorem by8_cons (b : UInt8) (t : List UInt8) (k : Nat) : by8 (b :: t) (k + 1) = by8 t k := rfl
theorem okc_le {c : Nat} (h : okc c) : c ≤ 1114111 := by unfold okc at h; omega
/-- a character's bytes are read as that character -/
theorem chr_enc (c : Nat) (h : okc c) : chr (enc c) 0 = (c, (enc c).length) := by
  have hle := okc_le h
  unfold okc at h
  unfold enc
  by_cases h1 : c < 128
  · rw [if_pos h1]
    unfold chr
    rw [by8_zero c _ (by omega), if_neg (by simp), if_pos h1]
    rfl
  rw [if_neg h1]
  by_cases h2 : c < 2048
  · rw [if_pos h2]
    have b0 := by8_zero (192 + c / 64) [UInt8.ofNat (128 + c % 64)] (by omega)
    have b1 : by8 [UInt8.ofNat (192 + c / 64), UInt8.ofNat (128 + c % 64)] 1 = 128 + c % 64 := (by8_cons _ _ 0).trans (by8_zero _ _ (by omega))
    generalize hL : [UInt8.ofNat (192 + c / 64), UInt8.ofNat (128 + c % 64)] = L at *
    have hl : L.length = 2 := by rw [← hL]; rfl
    have hv : chrN L 0 2 (192 + c / 64 - 192) 128 = (c, 2) := by
      have e : valB L 0 (192 + c / 64 - 192) 1 = c := by
        show (192 + c / 64 - 192) * 64 + by8 L 1 - 128 = c
        rw [b1]; omega
      have hc : contB L 0 1 = true := by
        show (true && (decide (128 ≤ by8 L 1) && decide (by8 L 1 < 192))) = true
        rw [b1]; simp; omega
      unfold chrN
      rw [show (2 : Nat) - 1 = 1 from rfl, e, if_pos ⟨by omega, hc, by omega, by omega, by omega⟩]
    unfold chr
    rw [b0, if_neg (by omega), if_neg (by omega), if_pos (by omega), hv, hl]
  rw [if_neg h2]
  by_cases h3 : c < 65536
  · rw [if_pos h3]
    have b0 := by8_zero (224 + c / 4096) [UInt8.ofNat (128 + c / 64 % 64), UInt8.ofNat (128 + c % 64)] (by omega)
    have b1 : by8 [UInt8.ofNat (224 + c / 4096), UInt8.ofNat (128 + c / 64 % 64), UInt8.ofNat (128 + c % 64)] 1 = 128 + c / 64 % 64 := (by8_cons _ _ 0).trans (by8_zero _ _ (by omega))
    have b2 : by8 [UInt8.ofNat (224 + c / 4096), UInt8.ofNat (128 + c / 64 % 64), UInt8.ofNat (128 + c % 64)] 2 = 128 + c % 64 := (by8_cons _ _ 1).trans ((by8_cons _ _ 0).trans (by8_zero _ _ (by omega)))
    generalize hL : [UInt8.ofNat (224 + c / 4096), UInt8.ofNat (128 + c / 64 % 64), UInt8.ofNat (128 + c % 64)] = L at *
    have hl : L.length = 3 := by rw [← hL]; rfl
    have hv : chrN L 0 3 (224 + c / 4096 - 224) 2048 = (c, 3) := by
      have e : valB L 0 (224 + c / 4096 - 224) 2 = c := by
        show ((224 + c / 4096 - 224) * 64 + by8 L 1 - 128) * 64 + by8 L 2 - 128 = c
        rw [b1, b2]; omega
      have hc : contB L 0 2 = true := by
        show (true && (decide (128 ≤ by8 L 1) && decide (by8 L 1 < 192)) && (decide (128 ≤ by8 L 2) && decide (by8 L 2 < 192))) = true
        rw [b1, b2]; simp; omega
      unfold chrN
      rw [show (3 : Nat) - 1 = 2 from rfl, e, if_pos ⟨by omega, hc, by omega, by omega, by omega⟩]
    unfold chr
    rw [b0, if_neg (by omega), if_neg (by omega), if_neg (by omega), if_pos (by omega), hv, hl]
  rw [if_neg h3]
  have b0 := by8_zero (240 + c / 262144) [UInt8.ofNat (128 + c / 4096 % 64), UInt8.ofNat (128 + c / 64 % 64), UInt8.ofNat (128 + c % 64)] (by omega)
  have b1 : by8 [UInt8.ofNat (240 + c / 262144), UInt8.ofNat (128 + c / 4096 % 64), UInt8.ofNat (128 + c / 64 % 64), UInt8.ofNat (128 + c % 64)] 1 = 128 + c / 4096 % 64 := (by8_cons _ _ 0).trans (by8_zero _ _ (by omega))
  have b2 : by8 [UInt8.ofNat (240 + c / 262144), UInt8.ofNat (128 + c / 4096 % 64), UInt8.ofNat (128 + c / 64 % 64), UInt8.ofNat (128 + c % 64)] 2 = 128 + c / 64 % 64 := (by8_cons _ _ 1).trans ((by8_cons _ _ 0).trans (by8_zero _ _ (by omega)))
  have b3 : by8 [UInt8.ofNat (240 + c / 262144), UInt8.ofNat (128 + c / 4096 % 64), UInt8.ofNat (128 + c / 64 % 64), UInt8.ofNat (128 + c % 64)] 3 = 128 + c % 64 := (by8_cons _ _ 2).trans ((by8_cons _ _ 1).trans ((by8_cons _ _ 0).trans (by8_zero _ _ (by omega))))
  generalize hL : [UInt8.ofNat (240 + c / 262144), UInt8.ofNat (128 + c / 4096 % 64), UInt8.ofNat (128 + c / 64 % 64), UInt8.ofNat (128 + c % 64)] = L at *
  have hl : L.length = 4 := by rw [← hL]; rfl
  have hv : chrN L 0 4 (240 + c / 262144 - 240) 65536 = (c, 4) := by
    have e : valB L 0 (240 + c / 262144 - 240) 3 = c := by
      show (((240 + c / 262144 - 240) * 64 + by8 L 1 - 128) * 64 + by8 L 2 - 128) * 64 + by8 L 3 - 128 = c
      rw [b1, b2, b3]; omega
    have hc : contB L 0 3 = true := by
      show (true && (decide (128 ≤ by8 L 1) && decide (by8 L 1 < 192)) && (decide (128 ≤ by8 L 2) && decide (by8 L 2 < 192)) && (decide (128 ≤ by8 L 3) && decide (by8 L 3 < 192))) = true
      rw [b1, b2, b3]; simp; omega
    unfold chrN
    rw [show (4 : Nat) - 1 = 3 from rfl, e, if_pos ⟨by omega, hc, by omega, by omega, by omega⟩]
  unfold chr
  rw [b0, if_neg (by omega), if_neg (by omega), if_neg (by omega), if_neg (by omega), if_pos (by omega), hv, hl]
theorem enc_pos (c : Nat) : (enc c).length ≠ 0 := by
  unfold enc
  repeat' split
  all_goals simp
theorem wideR_nil : wideR [] = ([], 0, 0) := by rw [wideR, wideGo, if_neg (by simp)]
theorem wideR_enc (c : Nat) (h : okc c) : wideR (enc c) = (units c, 0, 0) := by
  have hp := enc_pos c
  rw [wideR, wideGo, if_pos (by omega), chr_enc c h]
  simp only
  rw [if_neg hp, wideGo, if_neg (by omega)]
  rfl
/-- characters' bytes are turned to their units -/
theorem wideR_flat (cs : List Nat) (h : ∀ c ∈ cs, okc c) : wideR (cs.flatMap enc) = (cs.flatMap units, 0, 0) := by
  induction cs with
  | nil => exact wideR_nil
  | cons c cs ih =>
    have h1 := wideR_enc c (h c (by simp))
    have h2 := ih fun x hx => h x (by simp [hx])
    rw [List.flatMap_cons, List.flatMap_cons, wideR_append _ _ (by rw [h1]) (by rw [h2]), h1, h2]
theorem at16_right (a b : List UInt8) (k : Nat) (h : a.length % 2 = 0) : at16 (a ++ b) (a.length / 2 + k) = at16 b k := by
  unfold at16
  rw [show 2 * (a.length / 2 + k) = a.length + 2 * k by omega, by8_right, show a.length + 2 * k + 1 = a.length + (2 * k + 1) by omega, by8_right]
theorem at16_left (a b : List UInt8) (k : Nat) (h : 2 * k + 1 < a.length) : at16 (a ++ b) k = at16 a k := by
  unfold at16; rw [by8_left a b _ (by omega), by8_left a b _ (by omega)]
theorem at16_unit8 (u : Nat) (t : List UInt8) (h : u < 65536) : at16 (unit8 u ++ t) 0 = u := by
  rw [at16_left _ _ _ (by rw [unit8_length]; omega)]
  unfold at16 unit8
  rw [show 2 * 0 = 0 from rfl, by8_zero _ _ (by omega), by8_cons, by8_zero _ _ (by omega)]; omega
theorem units_even (c : Nat) : (units c).length % 2 = 0 := by unfold units; split <;> simp [unit8]
theorem units_half (c : Nat) : (units c).length / 2 = if 65536 ≤ c then 2 else 1 := by unfold units; split <;> simp [unit8]
theorem nst_right (a b : List UInt8) (i : Nat) (h : a.length % 2 = 0) : nst (a ++ b) (a.length / 2 + i) = nst b i := by
  unfold nst
  rw [at16_right a b i h, Nat.add_assoc, at16_right a b (i + 1) h, List.length_append, show (a.length + b.length) / 2 = a.length / 2 + b.length / 2 by omega]
  simp only [Nat.add_lt_add_iff_left]
theorem nst_units (c : Nat) (t : List UInt8) (h : okc c) : nst (units c ++ t) 0 = (c, (units c).length / 2) := by
  have hle := okc_le h
  unfold okc at h
  rw [units_half]
  by_cases h1 : 65536 ≤ c
  · rw [if_pos h1]
    have e : units c = unit8 (55296 + (c - 65536) / 1024) ++ unit8 (56320 + (c - 65536) % 1024) := by rw [units, if_pos h1]
    have a0 : at16 (units c ++ t) 0 = 55296 + (c - 65536) / 1024 := by rw [e, List.append_assoc, at16_unit8 _ _ (by omega)]
    have a1 : at16 (units c ++ t) (0 + 1) = 56320 + (c - 65536) % 1024 := by
      have := at16_right (unit8 (55296 + (c - 65536) / 1024)) (unit8 (56320 + (c - 65536) % 1024) ++ t) 0 (by rw [unit8_length])
      rw [unit8_length, at16_unit8 _ _ (by omega)] at this
      rw [e, List.append_assoc]
      exact this
    have hl : 0 + 1 < (units c ++ t).length / 2 := by rw [List.length_append, e, List.length_append, unit8_length, unit8_length]; omega
    unfold nst
    rw [a0, a1, if_pos ⟨by omega, hl, by omega⟩]
    exact Prod.ext (by simp only; omega) rfl
  · rw [if_neg h1]
    have a0 : at16 (units c ++ t) 0 = c := by rw [units, if_neg h1, at16_unit8 _ _ (by omega)]
    unfold nst
    rw [a0, if_neg (by omega), if_neg (by omega)]
theorem narGo_flat (cs : List Nat) : ∀ (pre acc : List UInt8), (∀ c ∈ cs, okc c) → pre.length % 2 = 0 → narGo (pre ++ cs.flatMap units) (pre.length / 2) acc = acc ++ cs.flatMap enc := by
  induction cs with
  | nil =>
    intro pre acc _ hp
    rw [narGo, if_neg (by simp)]
    simp
  | cons c cs ih =>
    intro pre acc h hp
    have hc := h c (by simp)
    have hu := units_even c
    have hh := units_half c
    have hpos : 2 ≤ (units c).length := by split at hh <;> omega
    rw [List.flatMap_cons, List.flatMap_cons]
    have hn := nst_right pre (units c ++ cs.flatMap units) 0 hp
    rw [Nat.add_zero, nst_units c _ hc] at hn
    rw [narGo, if_pos (by rw [List.length_append, List.length_append]; omega), hn]
    simp only
    have := ih (pre ++ units c) (acc ++ enc c) (fun x hx => h x (by simp [hx])) (by rw [List.length_append]; omega)
    rw [List.length_append, show (pre.length + (units c).length) / 2 = pre.length / 2 + (units c).length / 2 by omega, List.append_assoc] at this
    rw [this, List.append_assoc]
/-- units that are characters' come back as the characters' bytes -/
theorem narR_flat (cs : List Nat) (h : ∀ c ∈ cs, okc c) : narR (cs.flatMap units) = (cs.flatMap enc, 0) := by
  have he : (cs.flatMap units).length % 2 = 0 := by
    clear h
    induction cs with
    | nil => rfl
    | cons c cs ih => rw [List.flatMap_cons, List.length_append]; have := units_even c; omega
  rw [narR, if_neg (by omega)]
  have := narGo_flat cs [] [] h rfl
  simpa using this
end Go.Proofs.YtclaoeoofbobmaaGreatDoor
