/- The layer utf in plain Lean: joined texts, great and small letters twice. -/
import Derived.Test.YtepmneongpbglaaGreatDoorUtfPure2
namespace Go.Proofs.YtepmneongpbglaaGreatDoor
open Go Go.RowKit
set_option linter.all false
theorem at16_caseL (g : Bool) (l : List UInt8) : ∀ k i, i < k → at16 (caseL g l k) i = caseU g (at16 l i) := by
  intro k
  induction k with
  | zero => intro i h; omega
  | succ k ih =>
    intro i h
    have hl := caseL_length g l k
    by_cases hi : i < k
    · rw [← ih i hi]
      unfold at16
      rw [caseL_succ, by8_append, by8_append, if_pos (by omega), if_pos (by omega)]
    · obtain rfl : i = k := by omega
      have hu := caseU_lt g _ (at16_lt l i)
      have e0 : by8 (caseL g l (i + 1)) (2 * i) = caseU g (at16 l i) / 256 := by
        rw [caseL_succ, by8_append, if_neg (by omega), hl, show 2 * i - 2 * i = 0 by omega]
        show (UInt8.ofNat _).toNat = _
        rw [UInt8.toNat_ofNat']; omega
      have e1 : by8 (caseL g l (i + 1)) (2 * i + 1) = caseU g (at16 l i) % 256 := by
        rw [caseL_succ, by8_append, if_neg (by omega), hl, show 2 * i + 1 - 2 * i = 1 by omega]
        show (UInt8.ofNat _).toNat = _
        rw [UInt8.toNat_ofNat']; omega
      rw [at16, e0, e1]
      generalize caseU g (at16 l i) = u
      omega
theorem caseL_congr (g : Bool) (l m : List UInt8) : ∀ k, (∀ i, i < k → caseU g (at16 m i) = caseU g (at16 l i)) → caseL g m k = caseL g l k := by
  intro k
  induction k with
  | zero => intro _; rw [caseL_zero, caseL_zero]
  | succ k ih => intro h; rw [caseL_succ, caseL_succ, ih fun i hi => h i (by omega), h k (by omega)]
theorem caseU_caseU (g g' : Bool) (u : Nat) : caseU g' (caseU g u) = caseU g' u := by
  unfold caseU
  cases g <;> cases g' <;> simp only [Bool.false_eq_true, if_true, if_false]
  all_goals
    repeat' split
  all_goals omega
theorem caseL_caseL (g g' : Bool) (l : List UInt8) (k : Nat) : caseL g' (caseL g l k) k = caseL g' l k :=
  caseL_congr g' l _ k fun i hi => by rw [at16_caseL g l k i hi, caseU_caseU]
theorem by8_left (a b : List UInt8) (j : Nat) (h : j < a.length) : by8 (a ++ b) j = by8 a j := by rw [by8_append, if_pos h]
theorem by8_right (a b : List UInt8) (j : Nat) : by8 (a ++ b) (a.length + j) = by8 b j := by
  rw [by8_append, if_neg (by omega), show a.length + j - a.length = j by omega]
theorem contB_left (a b : List UInt8) (i : Nat) : ∀ k, i + k < a.length → contB (a ++ b) i k = contB a i k := by
  intro k
  induction k with
  | zero => intro _; rfl
  | succ k ih =>
    intro h
    show (contB (a ++ b) i k && (decide (128 ≤ by8 (a ++ b) (i + k + 1)) && decide (by8 (a ++ b) (i + k + 1) < 192))) = (contB a i k && (decide (128 ≤ by8 a (i + k + 1)) && decide (by8 a (i + k + 1) < 192)))
    rw [ih (by omega), by8_left a b _ (by omega)]
theorem valB_left (a b : List UInt8) (i c : Nat) : ∀ k, i + k < a.length → valB (a ++ b) i c k = valB a i c k := by
  intro k
  induction k with
  | zero => intro _; rfl
  | succ k ih =>
    intro h
    show valB (a ++ b) i c k * 64 + by8 (a ++ b) (i + k + 1) - 128 = valB a i c k * 64 + by8 a (i + k + 1) - 128
    rw [ih (by omega), by8_left a b _ (by omega)]
theorem contB_right (a b : List UInt8) (i : Nat) : ∀ k, contB (a ++ b) (a.length + i) k = contB b i k := by
  intro k
  induction k with
  | zero => rfl
  | succ k ih =>
    show (contB (a ++ b) (a.length + i) k && (decide (128 ≤ by8 (a ++ b) (a.length + i + k + 1)) && decide (by8 (a ++ b) (a.length + i + k + 1) < 192))) = (contB b i k && (decide (128 ≤ by8 b (i + k + 1)) && decide (by8 b (i + k + 1) < 192)))
    rw [ih, show a.length + i + k + 1 = a.length + (i + k + 1) by omega, by8_right]
theorem valB_right (a b : List UInt8) (i c : Nat) : ∀ k, valB (a ++ b) (a.length + i) c k = valB b i c k := by
  intro k
  induction k with
  | zero => rfl
  | succ k ih =>
    show valB (a ++ b) (a.length + i) c k * 64 + by8 (a ++ b) (a.length + i + k + 1) - 128 = valB b i c k * 64 + by8 b (i + k + 1) - 128
    rw [ih, show a.length + i + k + 1 = a.length + (i + k + 1) by omega, by8_right]
theorem chrN_left (a b : List UInt8) (i n c low : Nat) (hn : 1 ≤ n) (h : (chrN a i n c low).2 ≠ 0) : chrN (a ++ b) i n c low = chrN a i n c low := by
  have he := chrN_end a i n c low h
  have hb : i + n ≤ a.length := by
    unfold chrN at h
    split at h
    · rename_i hh; exact hh.1
    · exact absurd rfl h
  unfold chrN
  rw [contB_left a b i (n - 1) (by omega), valB_left a b i c (n - 1) (by omega), List.length_append]
  by_cases hc : contB a i (n - 1) = true ∧ low ≤ valB a i c (n - 1) ∧ valB a i c (n - 1) ≤ 1114111 ∧ ¬ (55296 ≤ valB a i c (n - 1) ∧ valB a i c (n - 1) < 57344)
  · rw [if_pos ⟨by omega, hc⟩, if_pos ⟨hb, hc⟩]
  · rw [if_neg (fun x => hc x.2), if_neg (fun x => hc x.2)]
theorem chrN_right (a b : List UInt8) (i n c low : Nat) : chrN (a ++ b) (a.length + i) n c low = chrN b i n c low := by
  unfold chrN
  rw [contB_right, valB_right, List.length_append, Nat.add_assoc]
  by_cases h : i + n ≤ b.length
  · simp only [h, show a.length + (i + n) ≤ a.length + b.length by omega]
  · rw [if_neg (fun x => h (by omega)), if_neg (fun x => h x.1)]
theorem chr_left (a b : List UInt8) (i : Nat) (h : (chr a i).2 ≠ 0) : chr (a ++ b) i = chr a i := by
  unfold chr at h ⊢
  split at h
  · exact absurd rfl h
  rename_i h0
  rw [if_neg h0, if_neg (by rw [List.length_append]; omega), by8_left a b i (by omega)]
  split at h
  · rename_i h1; rw [if_pos h1, if_pos h1]
  rename_i h1; rw [if_neg h1, if_neg h1]
  split at h
  · rename_i h2; rw [if_pos h2, if_pos h2]; exact chrN_left a b i 2 _ _ (by decide) h
  rename_i h2; rw [if_neg h2, if_neg h2]
  split at h
  · rename_i h3; rw [if_pos h3, if_pos h3]; exact chrN_left a b i 3 _ _ (by decide) h
  rename_i h3; rw [if_neg h3, if_neg h3]
  split at h
  · rename_i h4; rw [if_pos h4, if_pos h4]; exact chrN_left a b i 4 _ _ (by decide) h
  · exact absurd rfl h
theorem chr_right (a b : List UInt8) (i : Nat) : chr (a ++ b) (a.length + i) = chr b i := by
  unfold chr
  rw [by8_right, List.length_append, chrN_right, chrN_right, chrN_right]
  by_cases h : b.length ≤ i
  · rw [if_pos (by omega), if_pos h]
  · rw [if_neg (by omega), if_neg h]
/-- the units so far stand ahead of what comes -/
theorem wideGo_acc (l : List UInt8) (n : Nat) : ∀ i acc, l.length - i ≤ n → wideGo l i acc = (if (wideGo l i []).2.2 = 0 then (acc ++ (wideGo l i []).1, 0, 0) else wideGo l i []) := by
  induction n with
  | zero =>
    intro i acc h
    have e : ∀ acc, wideGo l i acc = (acc, 0, 0) := fun acc => by rw [wideGo, if_neg (by omega)]
    rw [e, e]
    simp
  | succ n ih =>
    intro i acc h
    rw [wideGo]
    by_cases hi : i < l.length
    · rw [if_pos hi]
      have e2 : wideGo l i [] = if (chr l i).2 = 0 then ([], i, 10) else wideGo l (i + (chr l i).2) ([] ++ units (chr l i).1) := by rw [wideGo, if_pos hi]
      by_cases hz : (chr l i).2 = 0
      · rw [if_pos hz] at e2 ⊢
        rw [e2]; simp
      · rw [if_neg hz] at e2 ⊢
        rw [e2, List.nil_append, ih _ (acc ++ units (chr l i).1) (by omega), ih _ (units (chr l i).1) (by omega)]
        by_cases hr : (wideGo l (i + (chr l i).2) []).2.2 = 0
        · rw [if_pos hr, if_pos hr, if_pos rfl, List.append_assoc]
        · rw [if_neg hr, if_neg hr, if_neg hr]
    · have e : ∀ acc, wideGo l i acc = (acc, 0, 0) := fun acc => by rw [wideGo, if_neg hi]
      rw [if_neg hi, e]
      simp
/-- a fault tells no units -/
theorem wideGo_shape (l : List UInt8) (n : Nat) : ∀ i acc, l.length - i ≤ n → acc.length % 2 = 0 → ((wideGo l i acc).2.2 = 0 ∧ (wideGo l i acc).2.1 = 0 ∧ (wideGo l i acc).1.length % 2 = 0) ∨ ((wideGo l i acc).1 = [] ∧ (wideGo l i acc).2.2 = 10 ∧ (chr l (wideGo l i acc).2.1).2 = 0) := by
  induction n with
  | zero =>
    intro i acc h ha
    rw [wideGo, if_neg (by omega)]
    exact .inl ⟨rfl, rfl, ha⟩
  | succ n ih =>
    intro i acc h ha
    rw [wideGo]
    by_cases hi : i < l.length
    · rw [if_pos hi]
      by_cases hz : (chr l i).2 = 0
      · rw [if_pos hz]; exact .inr ⟨rfl, rfl, hz⟩
      · rw [if_neg hz]
        exact ih _ _ (by omega) (by rw [List.length_append]; have : (units (chr l i).1).length % 2 = 0 := by { unfold units; split <;> simp [unit8] }; omega)
    · rw [if_neg hi]; exact .inl ⟨rfl, rfl, ha⟩
theorem wideGo_left (a b : List UInt8) (n : Nat) : ∀ i acc, a.length - i ≤ n → i ≤ a.length → (wideGo a i acc).2.2 = 0 → wideGo (a ++ b) i acc = wideGo (a ++ b) a.length (wideGo a i acc).1 := by
  induction n with
  | zero =>
    intro i acc h hi _
    obtain rfl : i = a.length := by omega
    rw [show wideGo a a.length acc = (acc, 0, 0) by rw [wideGo, if_neg (by omega)]]
  | succ n ih =>
    intro i acc h hi hz
    by_cases hlt : i < a.length
    · have e1 : wideGo a i acc = if (chr a i).2 = 0 then ([], i, 10) else wideGo a (i + (chr a i).2) (acc ++ units (chr a i).1) := by rw [wideGo, if_pos hlt]
      by_cases hc : (chr a i).2 = 0
      · rw [e1, if_pos hc] at hz; simp at hz
      · rw [if_neg hc] at e1
        have e2 : wideGo (a ++ b) i acc = wideGo (a ++ b) (i + (chr a i).2) (acc ++ units (chr a i).1) := by
          rw [wideGo, if_pos (by rw [List.length_append]; omega), chr_left a b i hc, if_neg hc]
        rw [e1] at hz ⊢
        rw [e2]
        exact ih _ _ (by omega) (chr_end a i hc) hz
    · obtain rfl : i = a.length := by omega
      rw [show wideGo a a.length acc = (acc, 0, 0) by rw [wideGo, if_neg (by omega)]]
theorem wideGo_right (a b : List UInt8) (n : Nat) : ∀ i acc, b.length - i ≤ n → (wideGo b i acc).2.2 = 0 → wideGo (a ++ b) (a.length + i) acc = wideGo b i acc := by
  induction n with
  | zero =>
    intro i acc h _
    rw [wideGo, if_neg (by rw [List.length_append]; omega), wideGo, if_neg (by omega)]
  | succ n ih =>
    intro i acc h hz
    by_cases hlt : i < b.length
    · have e1 : wideGo b i acc = if (chr b i).2 = 0 then ([], i, 10) else wideGo b (i + (chr b i).2) (acc ++ units (chr b i).1) := by rw [wideGo, if_pos hlt]
      by_cases hc : (chr b i).2 = 0
      · rw [e1, if_pos hc] at hz; simp at hz
      · rw [if_neg hc] at e1
        rw [e1] at hz ⊢
        rw [wideGo, if_pos (by rw [List.length_append]; omega), chr_right, if_neg hc, Nat.add_assoc]
        exact ih _ _ (by omega) hz
    · rw [wideGo, if_neg (by rw [List.length_append]; omega), wideGo, if_neg hlt]
theorem wideR_append (a b : List UInt8) (ha : (wideR a).2.2 = 0) (hb : (wideR b).2.2 = 0) : wideR (a ++ b) = ((wideR a).1 ++ (wideR b).1, 0, 0) := by
  unfold wideR at *
  rw [wideGo_left a b a.length 0 [] (by omega) (by omega) ha]
  have h := wideGo_acc b b.length 0 (wideGo a 0 []).1 (by omega)
  rw [if_pos hb] at h
  have h2 := wideGo_right a b b.length 0 (wideGo a 0 []).1 (by omega) (by rw [h])
  rw [Nat.add_zero] at h2
  rw [h2, h]
theorem wideR_shape (l : List UInt8) : ((wideR l).2.2 = 0 ∧ (wideR l).2.1 = 0 ∧ (wideR l).1.length % 2 = 0) ∨ ((wideR l).1 = [] ∧ (wideR l).2.2 = 10 ∧ (chr l (wideR l).2.1).2 = 0) :=
  wideGo_shape l l.length 0 [] (by omega) rfl
theorem wideGo_len (l : List UInt8) (n : Nat) : ∀ i acc, l.length - i ≤ n → (wideGo l i acc).1.length ≤ acc.length + 4 * n := by
  induction n with
  | zero => intro i acc h; rw [wideGo, if_neg (by omega)]; simp
  | succ n ih =>
    intro i acc h
    rw [wideGo]
    by_cases hi : i < l.length
    · rw [if_pos hi]
      by_cases hz : (chr l i).2 = 0
      · rw [if_pos hz]; simp
      · rw [if_neg hz]
        have h1 := ih (i + (chr l i).2) (acc ++ units (chr l i).1) (by omega)
        rw [List.length_append] at h1
        have h2 := units_length_le (chr l i).1
        omega
    · rw [if_neg hi]; show acc.length ≤ _; omega
theorem wideR_len (l : List UInt8) : (wideR l).1.length ≤ 4 * l.length := by
  have := wideGo_len l l.length 0 [] (by omega)
  simpa [wideR] using this
theorem findU_spec (l p : List UInt8) (n : Nat) : ∀ k i, l.length / 2 + 1 - i ≤ k →
    (findU l p n i = -1 ∧ ∀ j, i ≤ j → j + n ≤ l.length / 2 → sub l (2 * j) (2 * (j + n)) ≠ p) ∨
    (∃ m : Nat, findU l p n i = m ∧ i ≤ m ∧ m + n ≤ l.length / 2 ∧ sub l (2 * m) (2 * (m + n)) = p ∧ ∀ j, i ≤ j → j < m → sub l (2 * j) (2 * (j + n)) ≠ p) := by
  intro k
  induction k with
  | zero =>
    intro i h
    rw [findU, dif_neg (by omega)]
    exact .inl ⟨rfl, fun j h1 h2 => by omega⟩
  | succ k ih =>
    intro i h
    rw [findU]
    by_cases hi : i + n ≤ l.length / 2
    · rw [dif_pos hi]
      by_cases he : sub l (2 * i) (2 * (i + n)) = p
      · rw [if_pos he]
        exact .inr ⟨i, rfl, Nat.le_refl _, hi, he, fun j h1 h2 => by omega⟩
      · rw [if_neg he]
        rcases ih (i + 1) (by omega) with ⟨h1, h2⟩ | ⟨m, h1, h2, h3, h4, h5⟩
        · refine .inl ⟨h1, fun j h3 h4 => ?_⟩
          by_cases hj : j = i
          · subst hj; exact he
          · exact h2 j (by omega) h4
        · refine .inr ⟨m, h1, by omega, h3, h4, fun j h6 h7 => ?_⟩
          by_cases hj : j = i
          · subst hj; exact he
          · exact h5 j (by omega) h7
    · rw [dif_neg hi]
      exact .inl ⟨rfl, fun j h1 h2 => by omega⟩
end Go.Proofs.YtepmneongpbglaaGreatDoor
