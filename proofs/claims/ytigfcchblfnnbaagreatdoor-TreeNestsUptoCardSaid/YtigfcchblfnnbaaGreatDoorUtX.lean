/- The layer utf in plain Lean, the other way: units as characters, characters as bytes. The layer utf in plain Lean: joined texts, great and small letters twice. The layer utf in plain Lean: characters as bytes and back, units and back. The layer utf in plain Lean: every right text is its characters' bytes; every wide text of whole units comes back but for lone halves. -/
import Derived.Test.YtigfcchblfnnbaaGreatDoorUtfPure
namespace Go.Proofs.YtigfcchblfnnbaaGreatDoor
open Go Go.RowKit
set_option linter.all false
/-- a character's bytes -/
def enc (c : Nat) : List UInt8 :=
  if c < 128 then [UInt8.ofNat c]
  else if c < 2048 then [UInt8.ofNat (192 + c / 64), UInt8.ofNat (128 + c % 64)]
  else if c < 65536 then [UInt8.ofNat (224 + c / 4096), UInt8.ofNat (128 + c / 64 % 64), UInt8.ofNat (128 + c % 64)]
  else [UInt8.ofNat (240 + c / 262144), UInt8.ofNat (128 + c / 4096 % 64), UInt8.ofNat (128 + c / 64 % 64), UInt8.ofNat (128 + c % 64)]
@[go_sem] theorem enc_length_le (c : Nat) : (enc c).length ≤ 4 := by
  unfold enc
  repeat' split
  all_goals simp
/-- a character that may be -/
def okc (c : Nat) : Prop := c < 55296 ∨ (57344 ≤ c ∧ c ≤ 1114111)
end Go.Proofs.YtigfcchblfnnbaaGreatDoor
namespace Go.Proofs.YtigfcchblfnnbaaGreatDoor
open Go Go.RowKit
set_option linter.all false
theorem by8_left (a b : List UInt8) (j : Nat) (h : j < a.length) : by8 (a ++ b) j = by8 a j := by rw [by8_append, if_pos h]
theorem by8_right (a b : List UInt8) (j : Nat) : by8 (a ++ b) (a.length + j) = by8 b j := by
  rw [by8_append, if_neg (by omega), show a.length + j - a.length = j by omega]
theorem contB_left (a b : List UInt8) (i : Nat) : ∀ k, i + k < a.length → contB (a ++ b) i k = contB a i k := by
  intro k
  induction k with
  | zero => intro _; rfl
  | succ k ih =>
    intro h
    show (contB (a ++ b) i k && (decide (128 ≤ by8 (a ++ b) (i + k + 1)) && decide (by8 (a ++ b) (i + k + 1) < 192))) = (contB a i k && (decide (128 ≤ by8 a (i + k + 1)) && decide (by8 a (i + k + 1) < 192)))
    rw [ih (by omega), by8_left a b _ (by omega)]
theorem valB_left (a b : List UInt8) (i c : Nat) : ∀ k, i + k < a.length → valB (a ++ b) i c k = valB a i c k := by
  intro k
  induction k with
  | zero => intro _; rfl
  | succ k ih =>
    intro h
    show valB (a ++ b) i c k * 64 + by8 (a ++ b) (i + k + 1) - 128 = valB a i c k * 64 + by8 a (i + k + 1) - 128
    rw [ih (by omega), by8_left a b _ (by omega)]
theorem contB_right (a b : List UInt8) (i : Nat) : ∀ k, contB (a ++ b) (a.length + i) k = contB b i k := by
  intro k
  induction k with
  | zero => rfl
  | succ k ih =>
    show (contB (a ++ b) (a.length + i) k && (decide (128 ≤ by8 (a ++ b) (a.length + i + k + 1)) && decide (by8 (a ++ b) (a.length + i + k + 1) < 192))) = (contB b i k && (decide (128 ≤ by8 b (i + k + 1)) && decide (by8 b (i + k + 1) < 192)))
    rw [ih, show a.length + i + k + 1 = a.length + (i + k + 1) by omega, by8_right]
theorem valB_right (a b : List UInt8) (i c : Nat) : ∀ k, valB (a ++ b) (a.length + i) c k = valB b i c k := by
  intro k
  induction k with
  | zero => rfl
  | succ k ih =>
    show valB (a ++ b) (a.length + i) c k * 64 + by8 (a ++ b) (a.length + i + k + 1) - 128 = valB b i c k * 64 + by8 b (i + k + 1) - 128
    rw [ih, show a.length + i + k + 1 = a.length + (i + k + 1) by omega, by8_right]
theorem chrN_left (a b : List UInt8) (i n c low : Nat) (hn : 1 ≤ n) (h : (chrN a i n c low).2 ≠ 0) : chrN (a ++ b) i n c low = chrN a i n c low := by
  have he := chrN_end a i n c low h
  have hb : i + n ≤ a.length := by
    unfold chrN at h
    split at h
    · rename_i hh; exact hh.1
    · exact absurd rfl h
  unfold chrN
  rw [contB_left a b i (n - 1) (by omega), valB_left a b i c (n - 1) (by omega), List.length_append]
  by_cases hc : contB a i (n - 1) = true ∧ low ≤ valB a i c (n - 1) ∧ valB a i c (n - 1) ≤ 1114111 ∧ ¬ (55296 ≤ valB a i c (n - 1) ∧ valB a i c (n - 1) < 57344)
  · rw [if_pos ⟨by omega, hc⟩, if_pos ⟨hb, hc⟩]
  · rw [if_neg (fun x => hc x.2), if_neg (fun x => hc x.2)]
theorem chrN_right (a b : List UInt8) (i n c low : Nat) : chrN (a ++ b) (a.length + i) n c low = chrN b i n c low := by
  unfold chrN
  rw [contB_right, valB_right, List.length_append, Nat.add_assoc]
  by_cases h : i + n ≤ b.length
  · simp only [h, show a.length + (i + n) ≤ a.length + b.length by omega]
  · rw [if_neg (fun x => h (by omega)), if_neg (fun x => h x.1)]
theorem chr_left (a b : List UInt8) (i : Nat) (h : (chr a i).2 ≠ 0) : chr (a ++ b) i = chr a i := by
  unfold chr at h ⊢
  split at h
  · exact absurd rfl h
  rename_i h0
  rw [if_neg h0, if_neg (by rw [List.length_append]; omega), by8_left a b i (by omega)]
  split at h
  · rename_i h1; rw [if_pos h1, if_pos h1]
  rename_i h1; rw [if_neg h1, if_neg h1]
  split at h
  · rename_i h2; rw [if_pos h2, if_pos h2]; exact chrN_left a b i 2 _ _ (by decide) h
  rename_i h2; rw [if_neg h2, if_neg h2]
  split at h
  · rename_i h3; rw [if_pos h3, if_pos h3]; exact chrN_left a b i 3 _ _ (by decide) h
  rename_i h3; rw [if_neg h3, if_neg h3]
  split at h
  · rename_i h4; rw [if_pos h4, if_pos h4]; exact chrN_left a b i 4 _ _ (by decide) h
  · exact absurd rfl h
theorem chr_right (a b : List UInt8) (i : Nat) : chr (a ++ b) (a.length + i) = chr b i := by
  unfold chr
  rw [by8_right, List.length_append, chrN_right, chrN_right, chrN_right]
  by_cases h : b.length ≤ i
  · rw [if_pos (by omega), if_pos h]
  · rw [if_neg (by omega), if_neg h]
end Go.Proofs.YtigfcchblfnnbaaGreatDoor
namespace Go.Proofs.YtigfcchblfnnbaaGreatDoor
open Go Go.RowKit
set_option linter.all false
theorem by8_zero (n : Nat) (t : List UInt8) (h : n < 256) : by8 (UInt8.ofNat n :: t) 0 = n := by
  show (UInt8.ofNat n).toNat = n
  rw [UInt8.toNat_ofNat']; omega
theorem by8_cons (b : UInt8) (t : List UInt8) (k : Nat) : by8 (b :: t) (k + 1) = by8 t k := rfl
theorem okc_le {c : Nat} (h : okc c) : c ≤ 1114111 := by unfold okc at h; omega
/-- a character's bytes are read as that character -/
theorem chr_enc (c : Nat) (h : okc c) : chr (enc c) 0 = (c, (enc c).length) := by
  have hle := okc_le h
  unfold okc at h
  unfold enc
  by_cases h1 : c < 128
  · rw [if_pos h1]
    unfold chr
    rw [by8_zero c _ (by omega), if_neg (by simp), if_pos h1]
    rfl
  rw [if_neg h1]
  by_cases h2 : c < 2048
  · rw [if_pos h2]
    have b0 := by8_zero (192 + c / 64) [UInt8.ofNat (128 + c % 64)] (by omega)
    have b1 : by8 [UInt8.ofNat (192 + c / 64), UInt8.ofNat (128 + c % 64)] 1 = 128 + c % 64 := (by8_cons _ _ 0).trans (by8_zero _ _ (by omega))
    generalize hL : [UInt8.ofNat (192 + c / 64), UInt8.ofNat (128 + c % 64)] = L at *
    have hl : L.length = 2 := by rw [← hL]; rfl
    have hv : chrN L 0 2 (192 + c / 64 - 192) 128 = (c, 2) := by
      have e : valB L 0 (192 + c / 64 - 192) 1 = c := by
        show (192 + c / 64 - 192) * 64 + by8 L 1 - 128 = c
        rw [b1]; omega
      have hc : contB L 0 1 = true := by
        show (true && (decide (128 ≤ by8 L 1) && decide (by8 L 1 < 192))) = true
        rw [b1]; simp; omega
      unfold chrN
      rw [show (2 : Nat) - 1 = 1 from rfl, e, if_pos ⟨by omega, hc, by omega, by omega, by omega⟩]
    unfold chr
    rw [b0, if_neg (by omega), if_neg (by omega), if_pos (by omega), hv, hl]
  rw [if_neg h2]
  by_cases h3 : c < 65536
  · rw [if_pos h3]
    have b0 := by8_zero (224 + c / 4096) [UInt8.ofNat (128 + c / 64 % 64), UInt8.ofNat (128 + c % 64)] (by omega)
    have b1 : by8 [UInt8.ofNat (224 + c / 4096), UInt8.ofNat (128 + c / 64 % 64), UInt8.ofNat (128 + c % 64)] 1 = 128 + c / 64 % 64 := (by8_cons _ _ 0).trans (by8_zero _ _ (by omega))
    have b2 : by8 [UInt8.ofNat (224 + c / 4096), UInt8.ofNat (128 + c / 64 % 64), UInt8.ofNat (128 + c % 64)] 2 = 128 + c % 64 := (by8_cons _ _ 1).trans ((by8_cons _ _ 0).trans (by8_zero _ _ (by omega)))
    generalize hL : [UInt8.ofNat (224 + c / 4096), UInt8.ofNat (128 + c / 64 % 64), UInt8.ofNat (128 + c % 64)] = L at *
    have hl : L.length = 3 := by rw [← hL]; rfl
    have hv : chrN L 0 3 (224 + c / 4096 - 224) 2048 = (c, 3) := by
      have e : valB L 0 (224 + c / 4096 - 224) 2 = c := by
        show ((224 + c / 4096 - 224) * 64 + by8 L 1 - 128) * 64 + by8 L 2 - 128 = c
        rw [b1, b2]; omega
      have hc : contB L 0 2 = true := by
        show (true && (decide (128 ≤ by8 L 1) && decide (by8 L 1 < 192)) && (decide (128 ≤ by8 L 2) && decide (by8 L 2 < 192))) = true
        rw [b1, b2]; simp; omega
      unfold chrN
      rw [show (3 : Nat) - 1 = 2 from rfl, e, if_pos ⟨by omega, hc, by omega, by omega, by omega⟩]
    unfold chr
    rw [b0, if_neg (by omega), if_neg (by omega), if_neg (by omega), if_pos (by omega), hv, hl]
  rw [if_neg h3]
  have b0 := by8_zero (240 + c / 262144) [UInt8.ofNat (128 + c / 4096 % 64), UInt8.ofNat (128 + c / 64 % 64), UInt8.ofNat (128 + c % 64)] (by omega)
  have b1 : by8 [UInt8.ofNat (240 + c / 262144), UInt8.ofNat (128 + c / 4096 % 64), UInt8.ofNat (128 + c / 64 % 64), UInt8.ofNat (128 + c % 64)] 1 = 128 + c / 4096 % 64 := (by8_cons _ _ 0).trans (by8_zero _ _ (by omega))
  have b2 : by8 [UInt8.ofNat (240 + c / 262144), UInt8.ofNat (128 + c / 4096 % 64), UInt8.ofNat (128 + c / 64 % 64), UInt8.ofNat (128 + c % 64)] 2 = 128 + c / 64 % 64 := (by8_cons _ _ 1).trans ((by8_cons _ _ 0).trans (by8_zero _ _ (by omega)))
  have b3 : by8 [UInt8.ofNat (240 + c / 262144), UInt8.ofNat (128 + c / 4096 % 64), UInt8.ofNat (128 + c / 64 % 64), UInt8.ofNat (128 + c % 64)] 3 = 128 + c % 64 := (by8_cons _ _ 2).trans ((by8_cons _ _ 1).trans ((by8_cons _ _ 0).trans (by8_zero _ _ (by omega))))
  generalize hL : [UInt8.ofNat (240 + c / 262144), UInt8.ofNat (128 + c / 4096 % 64), UInt8.ofNat (128 + c / 64 % 64), UInt8.ofNat (128 + c % 64)] = L at *
  have hl : L.length = 4 := by rw [← hL]; rfl
  have hv : chrN L 0 4 (240 + c / 262144 - 240) 65536 = (c, 4) := by
    have e : valB L 0 (240 + c / 262144 - 240) 3 = c := by
      show (((240 + c / 262144 - 240) * 64 + by8 L 1 - 128) * 64 + by8 L 2 - 128) * 64 + by8 L 3 - 128 = c
      rw [b1, b2, b3]; omega
    have hc : contB L 0 3 = true := by
      show (true && (decide (128 ≤ by8 L 1) && decide (by8 L 1 < 192)) && (decide (128 ≤ by8 L 2) && decide (by8 L 2 < 192)) && (decide (128 ≤ by8 L 3) && decide (by8 L 3 < 192))) = true
      rw [b1, b2, b3]; simp; omega
    unfold chrN
    rw [show (4 : Nat) - 1 = 3 from rfl, e, if_pos ⟨by omega, hc, by omega, by omega, by omega⟩]
  unfold chr
  rw [b0, if_neg (by omega), if_neg (by omega), if_neg (by omega), if_neg (by omega), if_pos (by omega), hv, hl]
theorem enc_pos (c : Nat) : (enc c).length ≠ 0 := by
  unfold enc
  repeat' split
  all_goals simp
end Go.Proofs.YtigfcchblfnnbaaGreatDoor
namespace Go.Proofs.YtigfcchblfnnbaaGreatDoor
open Go Go.RowKit
set_option linter.all false
theorem sub_one (l : List UInt8) (i : Nat) (h : i + 1 ≤ l.length) : sub l i (i + 1) = [UInt8.ofNat (by8 l i)] := by
  rw [sub_cons l (by omega) (by omega), sub_nil l (Nat.le_refl _)]
theorem sub_2 (l : List UInt8) (i : Nat) (h : i + 2 ≤ l.length) : sub l i (i + 2) = [UInt8.ofNat (by8 l i), UInt8.ofNat (by8 l (i + 1))] := by
  rw [sub_cons l (by omega) (by omega), sub_one l (i + 1) (by omega)]
theorem sub_3 (l : List UInt8) (i : Nat) (h : i + 3 ≤ l.length) : sub l i (i + 3) = [UInt8.ofNat (by8 l i), UInt8.ofNat (by8 l (i + 1)), UInt8.ofNat (by8 l (i + 2))] := by
  rw [sub_cons l (by omega) (by omega), sub_2 l (i + 1) (by omega)]
theorem sub_4 (l : List UInt8) (i : Nat) (h : i + 4 ≤ l.length) : sub l i (i + 4) = [UInt8.ofNat (by8 l i), UInt8.ofNat (by8 l (i + 1)), UInt8.ofNat (by8 l (i + 2)), UInt8.ofNat (by8 l (i + 3))] := by
  rw [sub_cons l (by omega) (by omega), sub_3 l (i + 1) (by omega)]
theorem chrN_yes (l : List UInt8) (i n c low : Nat) (h : (chrN l i n c low).2 ≠ 0) : chrN l i n c low = (valB l i c (n - 1), n) ∧ i + n ≤ l.length ∧ contB l i (n - 1) = true ∧ low ≤ valB l i c (n - 1) ∧ valB l i c (n - 1) ≤ 1114111 ∧ ¬ (55296 ≤ valB l i c (n - 1) ∧ valB l i c (n - 1) < 57344) := by
  unfold chrN at *
  split at h
  · rename_i hh; rw [if_pos hh]; exact ⟨rfl, hh⟩
  · exact absurd rfl h
theorem enc_chr (l : List UInt8) (i : Nat) (h : (chr l i).2 ≠ 0) : okc (chr l i).1 ∧ sub l i (i + (chr l i).2) = enc (chr l i).1 := by
  have l0 := by8_lt l i
  unfold chr at *
  split at h
  · exact absurd rfl h
  rename_i h0
  rw [if_neg h0]
  split at h
  · rename_i h1
    rw [if_pos h1]
    refine ⟨.inl (by simp only; omega), ?_⟩
    simp only
    rw [sub_one l i (by omega), enc, if_pos h1]
  rename_i h1; rw [if_neg h1]
  split at h
  · rename_i h2; rw [if_pos h2]
    obtain ⟨e, h3, h4, h5, h6, h7⟩ := chrN_yes _ _ _ _ _ h
    rw [e]
    have hc : (true && (decide (128 ≤ by8 l (i + 1)) && decide (by8 l (i + 1) < 192))) = true := h4
    have hv : valB l i (by8 l i - 192) (2 - 1) = (by8 l i - 192) * 64 + by8 l (i + 1) - 128 := rfl
    simp only [Bool.true_and, Bool.and_eq_true, decide_eq_true_eq] at hc
    rw [hv] at h5 h6 h7 ⊢
    simp only
    refine ⟨by unfold okc; omega, ?_⟩
    rw [sub_2 l i h3, enc, if_neg (by omega), if_pos (by omega)]
    rw [show 192 + ((by8 l i - 192) * 64 + by8 l (i + 1) - 128) / 64 = by8 l i by omega, show 128 + ((by8 l i - 192) * 64 + by8 l (i + 1) - 128) % 64 = by8 l (i + 1) by omega]
  rename_i h2; rw [if_neg h2]
  split at h
  · rename_i h3'; rw [if_pos h3']
    obtain ⟨e, h3, h4, h5, h6, h7⟩ := chrN_yes _ _ _ _ _ h
    rw [e]
    have hc : (true && (decide (128 ≤ by8 l (i + 1)) && decide (by8 l (i + 1) < 192)) && (decide (128 ≤ by8 l (i + 2)) && decide (by8 l (i + 2) < 192))) = true := h4
    have hv : valB l i (by8 l i - 224) (3 - 1) = ((by8 l i - 224) * 64 + by8 l (i + 1) - 128) * 64 + by8 l (i + 2) - 128 := rfl
    simp only [Bool.true_and, Bool.and_eq_true, decide_eq_true_eq] at hc
    rw [hv] at h5 h6 h7 ⊢
    simp only
    refine ⟨by unfold okc; omega, ?_⟩
    rw [sub_3 l i h3, enc, if_neg (by omega), if_neg (by omega), if_pos (by omega)]
    rw [show 224 + (((by8 l i - 224) * 64 + by8 l (i + 1) - 128) * 64 + by8 l (i + 2) - 128) / 4096 = by8 l i by omega, show 128 + (((by8 l i - 224) * 64 + by8 l (i + 1) - 128) * 64 + by8 l (i + 2) - 128) / 64 % 64 = by8 l (i + 1) by omega, show 128 + (((by8 l i - 224) * 64 + by8 l (i + 1) - 128) * 64 + by8 l (i + 2) - 128) % 64 = by8 l (i + 2) by omega]
  rename_i h3'; rw [if_neg h3']
  split at h
  · rename_i h4'; rw [if_pos h4']
    obtain ⟨e, h3, h4, h5, h6, h7⟩ := chrN_yes _ _ _ _ _ h
    rw [e]
    have hc : (true && (decide (128 ≤ by8 l (i + 1)) && decide (by8 l (i + 1) < 192)) && (decide (128 ≤ by8 l (i + 2)) && decide (by8 l (i + 2) < 192)) && (decide (128 ≤ by8 l (i + 3)) && decide (by8 l (i + 3) < 192))) = true := h4
    have hv : valB l i (by8 l i - 240) (4 - 1) = (((by8 l i - 240) * 64 + by8 l (i + 1) - 128) * 64 + by8 l (i + 2) - 128) * 64 + by8 l (i + 3) - 128 := rfl
    simp only [Bool.true_and, Bool.and_eq_true, decide_eq_true_eq] at hc
    rw [hv] at h5 h6 h7 ⊢
    simp only
    refine ⟨by unfold okc; omega, ?_⟩
    rw [sub_4 l i h3, enc, if_neg (by omega), if_neg (by omega), if_neg (by omega)]
    rw [show 240 + ((((by8 l i - 240) * 64 + by8 l (i + 1) - 128) * 64 + by8 l (i + 2) - 128) * 64 + by8 l (i + 3) - 128) / 262144 = by8 l i by omega, show 128 + ((((by8 l i - 240) * 64 + by8 l (i + 1) - 128) * 64 + by8 l (i + 2) - 128) * 64 + by8 l (i + 3) - 128) / 4096 % 64 = by8 l (i + 1) by omega, show 128 + ((((by8 l i - 240) * 64 + by8 l (i + 1) - 128) * 64 + by8 l (i + 2) - 128) * 64 + by8 l (i + 3) - 128) / 64 % 64 = by8 l (i + 2) by omega, show 128 + ((((by8 l i - 240) * 64 + by8 l (i + 1) - 128) * 64 + by8 l (i + 2) - 128) * 64 + by8 l (i + 3) - 128) % 64 = by8 l (i + 3) by omega]
  · exact absurd rfl h
end Go.Proofs.YtigfcchblfnnbaaGreatDoor
