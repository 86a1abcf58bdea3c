/- The layer utf in plain Lean: what its functions compute, as functions on lists of bytes. -/
import Derived.Test.YtigfcchblfnnbaaGreatDoorBase
namespace Go.Proofs.YtigfcchblfnnbaaGreatDoor
open Go Go.RowKit
set_option linter.all false
theorem sub_nil (l : List UInt8) {a b : Nat} (h : b ≤ a) : sub l a b = [] := by unfold sub; rw [show b - a = 0 by omega]; rfl
theorem sub_all (l : List UInt8) {b : Nat} (h : l.length ≤ b) : sub l 0 b = l := by unfold sub; simp [List.take_of_length_le, h]
/-- the two bytes of a unit -/
def unit8 (u : Nat) : List UInt8 := [UInt8.ofNat (u / 256), UInt8.ofNat (u % 256)]
@[go_sem] theorem unit8_length (u : Nat) : (unit8 u).length = 2 := rfl
theorem by8_append (a b : List UInt8) (j : Nat) : by8 (a ++ b) j = if j < a.length then by8 a j else by8 b (j - a.length) := by
  unfold by8
  by_cases h : j < a.length
  · simp [h, List.getElem?_append_left]
  · simp only [h, if_false, List.getD_eq_getElem?_getD]
    rw [List.getElem?_append_right (by omega)]
theorem by8_sub (l : List UInt8) (a b j : Nat) : by8 (sub l a b) j = if j < b - a then by8 l (a + j) else 0 := by
  unfold by8 sub
  by_cases h : j < b - a <;> simp [h, List.getElem?_take]
theorem sub_cons (l : List UInt8) {a b : Nat} (h : a < b) (h' : a < l.length) : sub l a b = UInt8.ofNat (by8 l a) :: sub l (a + 1) b := by
  unfold sub by8
  rw [List.drop_eq_getElem_cons h', show b - a = (b - (a + 1)) + 1 by omega, List.take_succ_cons]
  simp [h']
/-- the k bytes behind place i are bytes that go on -/
def contB (l : List UInt8) (i : Nat) : Nat → Bool
  | 0 => true
  | k + 1 => contB l i k && (decide (128 ≤ by8 l (i + k + 1)) && decide (by8 l (i + k + 1) < 192))
/-- the number that they make -/
def valB (l : List UInt8) (i c : Nat) : Nat → Nat
  | 0 => c
  | k + 1 => valB l i c k * 64 + by8 l (i + k + 1) - 128
theorem valB_lt (l : List UInt8) (i c : Nat) (hc : c < 32) : ∀ k, contB l i k = true → valB l i c k < 32 * 64 ^ k := by
  intro k
  induction k with
  | zero => intro _; show c < 32 * 1; omega
  | succ k ih =>
    intro h
    have h : (contB l i k && (decide (128 ≤ by8 l (i + k + 1)) && decide (by8 l (i + k + 1) < 192))) = true := h
    simp only [Bool.and_eq_true, decide_eq_true_eq] at h
    have h1 := ih h.1
    have h2 := h.2.2
    show valB l i c k * 64 + by8 l (i + k + 1) - 128 < 32 * 64 ^ (k + 1)
    rw [Nat.pow_succ]
    generalize 64 ^ k = q at *
    omega
def chrN (l : List UInt8) (i n c low : Nat) : Nat × Nat :=
  if i + n ≤ l.length ∧ contB l i (n - 1) = true ∧ low ≤ valB l i c (n - 1) ∧ valB l i c (n - 1) ≤ 1114111 ∧ ¬ (55296 ≤ valB l i c (n - 1) ∧ valB l i c (n - 1) < 57344) then (valB l i c (n - 1), n) else (0, 0)
/-- THE CHARACTER AT BYTE i, and its bytes; 0 bytes: none -/
def chr (l : List UInt8) (i : Nat) : Nat × Nat :=
  if l.length ≤ i then (0, 0)
  else if by8 l i < 128 then (by8 l i, 1)
  else if 192 ≤ by8 l i ∧ by8 l i < 224 then chrN l i 2 (by8 l i - 192) 128
  else if 224 ≤ by8 l i ∧ by8 l i < 240 then chrN l i 3 (by8 l i - 224) 2048
  else if 240 ≤ by8 l i ∧ by8 l i < 248 then chrN l i 4 (by8 l i - 240) 65536
  else (0, 0)
theorem get_mk (m : List UInt8) (k : Nat) : ((ByteArray.mk m.toArray).get! k).toNat = by8 m k := by
  unfold by8 ByteArray.get!
  by_cases h : k < m.length
  · simp [h]
  · simp [h]
    rfl
theorem chr_decode (l : List UInt8) (i : Nat) (h : i < l.length) :
    (if (Utf8.decode ⟨(sub l i l.length).toArray⟩ 0) = (65533, 1) then (0, 0) else Utf8.decode ⟨(sub l i l.length).toArray⟩ 0) = chr l i := by
  have hb : ∀ k, by8 (sub l i l.length) k = by8 l (i + k) := fun k => by
    rw [by8_sub]
    split
    · rfl
    · unfold by8; rw [List.getD_eq_getElem?_getD, List.getElem?_eq_none (by omega)]; rfl
  have hz : (ByteArray.mk (sub l i l.length).toArray).size = l.length - i := by
    show (sub l i l.length).toArray.size = _
    simp only [List.size_toArray, length_sub]; omega
  have e2 : ∀ c low, chrN l i 2 c low = if i + 2 ≤ l.length ∧ (true && (decide (128 ≤ by8 l (i + 1)) && decide (by8 l (i + 1) < 192))) = true ∧ low ≤ c * 64 + by8 l (i + 1) - 128 ∧ c * 64 + by8 l (i + 1) - 128 ≤ 1114111 ∧ ¬ (55296 ≤ c * 64 + by8 l (i + 1) - 128 ∧ c * 64 + by8 l (i + 1) - 128 < 57344) then (c * 64 + by8 l (i + 1) - 128, 2) else (0, 0) := fun _ _ => rfl
  have e3 : ∀ c low, chrN l i 3 c low = if i + 3 ≤ l.length ∧ (true && (decide (128 ≤ by8 l (i + 1)) && decide (by8 l (i + 1) < 192)) && (decide (128 ≤ by8 l (i + 2)) && decide (by8 l (i + 2) < 192))) = true ∧ low ≤ (c * 64 + by8 l (i + 1) - 128) * 64 + by8 l (i + 2) - 128 ∧ (c * 64 + by8 l (i + 1) - 128) * 64 + by8 l (i + 2) - 128 ≤ 1114111 ∧ ¬ (55296 ≤ (c * 64 + by8 l (i + 1) - 128) * 64 + by8 l (i + 2) - 128 ∧ (c * 64 + by8 l (i + 1) - 128) * 64 + by8 l (i + 2) - 128 < 57344) then ((c * 64 + by8 l (i + 1) - 128) * 64 + by8 l (i + 2) - 128, 3) else (0, 0) := fun _ _ => rfl
  have e4 : ∀ c low, chrN l i 4 c low = if i + 4 ≤ l.length ∧ (true && (decide (128 ≤ by8 l (i + 1)) && decide (by8 l (i + 1) < 192)) && (decide (128 ≤ by8 l (i + 2)) && decide (by8 l (i + 2) < 192)) && (decide (128 ≤ by8 l (i + 3)) && decide (by8 l (i + 3) < 192))) = true ∧ low ≤ ((c * 64 + by8 l (i + 1) - 128) * 64 + by8 l (i + 2) - 128) * 64 + by8 l (i + 3) - 128 ∧ ((c * 64 + by8 l (i + 1) - 128) * 64 + by8 l (i + 2) - 128) * 64 + by8 l (i + 3) - 128 ≤ 1114111 ∧ ¬ (55296 ≤ ((c * 64 + by8 l (i + 1) - 128) * 64 + by8 l (i + 2) - 128) * 64 + by8 l (i + 3) - 128 ∧ ((c * 64 + by8 l (i + 1) - 128) * 64 + by8 l (i + 2) - 128) * 64 + by8 l (i + 3) - 128 < 57344) then (((c * 64 + by8 l (i + 1) - 128) * 64 + by8 l (i + 2) - 128) * 64 + by8 l (i + 3) - 128, 4) else (0, 0) := fun _ _ => rfl
  unfold chr
  rw [e2, e3, e4]
  clear e2 e3 e4
  unfold Utf8.decode
  simp only [get_mk, hb, hz, Nat.add_zero, Nat.zero_add]
  have l0 := by8_lt l i; have l1 := by8_lt l (i + 1); have l2 := by8_lt l (i + 2); have l3 := by8_lt l (i + 3)
  generalize by8 l i = b0 at *
  generalize by8 l (i + 1) = b1 at *
  generalize by8 l (i + 2) = b2 at *
  generalize by8 l (i + 3) = b3 at *
  clear hb hz
  generalize hn : l.length = n at *
  obtain ⟨m, rfl⟩ : ∃ m, n = i + m := ⟨n - i, by omega⟩
  have hm : 1 ≤ m := by omega
  clear hn h
  rw [if_neg (show ¬ i + m ≤ i by omega), show i + m - i = m by omega]
  simp only [Bool.and_eq_true, Bool.or_eq_true, beq_iff_eq, decide_eq_true_eq, Utf8.valid, Utf8.runeError, Bool.true_and, Nat.add_le_add_iff_left, ge_iff_le]
  generalize hd : (if b0 < 128 then (b0, 1) else _ : Nat × Nat) = d
  by_cases h0 : b0 < 128
  · rw [if_pos h0] at hd ⊢
    subst hd
    rw [if_neg (by simp; omega)]
  rw [if_neg h0] at hd ⊢
  by_cases h1 : 192 ≤ b0 ∧ b0 < 224
  · rw [if_pos h1]
    by_cases hc : 2 ≤ m ∧ (128 ≤ b1 ∧ b1 < 192)
    · rw [if_pos (by omega)] at hd
      by_cases hv : 128 ≤ b0 % 32 * 64 + b1 % 64
      · rw [if_pos hv] at hd; subst hd
        rw [if_neg (by simp), if_pos (by omega)]
        exact Prod.ext (by simp only; omega) rfl
      · rw [if_neg hv] at hd; subst hd
        rw [if_pos rfl, if_neg (by omega)]
    · rw [if_neg (by omega), if_neg (by omega), if_neg (by omega)] at hd; subst hd
      rw [if_pos rfl, if_neg (by omega)]
  rw [if_neg h1]
  by_cases h2 : 224 ≤ b0 ∧ b0 < 240
  · rw [if_pos h2]
    by_cases hc : 3 ≤ m ∧ (128 ≤ b1 ∧ b1 < 192) ∧ (128 ≤ b2 ∧ b2 < 192)
    · rw [if_neg (by omega), if_pos (by omega)] at hd
      split at hd
      · subst hd
        rw [if_neg (by simp), if_pos (by omega)]
        exact Prod.ext (by simp only; omega) rfl
      · subst hd
        rw [if_pos rfl, if_neg (by omega)]
    · rw [if_neg (by omega), if_neg (by omega), if_neg (by omega)] at hd; subst hd
      rw [if_pos rfl, if_neg (by omega)]
  rw [if_neg h2]
  by_cases h3 : 240 ≤ b0 ∧ b0 < 248
  · rw [if_pos h3]
    by_cases hc : 4 ≤ m ∧ (128 ≤ b1 ∧ b1 < 192) ∧ (128 ≤ b2 ∧ b2 < 192) ∧ (128 ≤ b3 ∧ b3 < 192)
    · rw [if_neg (by omega), if_neg (by omega), if_pos (by omega)] at hd
      split at hd
      · subst hd
        rw [if_neg (by simp), if_pos (by omega)]
        exact Prod.ext (by simp only; omega) rfl
      · subst hd
        rw [if_pos rfl, if_neg (by omega)]
    · rw [if_neg (by omega), if_neg (by omega), if_neg (by omega)] at hd; subst hd
      rw [if_pos rfl, if_neg (by omega)]
  rw [if_neg h3]
  rw [if_neg (by omega), if_neg (by omega), if_neg (by omega)] at hd; subst hd
  rw [if_pos rfl]
/-- a character's units -/
def units (c : Nat) : List UInt8 := if 65536 ≤ c then unit8 (55296 + (c - 65536) / 1024) ++ unit8 (56320 + (c - 65536) % 1024) else unit8 c
theorem chrN_end (l : List UInt8) (i n c low : Nat) (h : (chrN l i n c low).2 ≠ 0) : i + (chrN l i n c low).2 ≤ l.length := by
  unfold chrN at *
  split at h
  · rename_i hh; rw [if_pos hh]; exact hh.1
  · exact absurd rfl h
theorem chr_end (l : List UInt8) (i : Nat) (h : (chr l i).2 ≠ 0) : i + (chr l i).2 ≤ l.length := by
  unfold chr at *
  split at h
  · exact absurd rfl h
  rename_i h0
  rw [if_neg h0]
  split at h
  · rename_i h1; rw [if_pos h1]; show i + 1 ≤ _; omega
  rename_i h1; rw [if_neg h1]
  split at h
  · rename_i h2; rw [if_pos h2]; exact chrN_end _ _ _ _ _ h
  rename_i h2; rw [if_neg h2]
  split at h
  · rename_i h3; rw [if_pos h3]; exact chrN_end _ _ _ _ _ h
  rename_i h3; rw [if_neg h3]
  split at h
  · rename_i h4; rw [if_pos h4]; exact chrN_end _ _ _ _ _ h
  · exact absurd rfl h
end Go.Proofs.YtigfcchblfnnbaaGreatDoor
