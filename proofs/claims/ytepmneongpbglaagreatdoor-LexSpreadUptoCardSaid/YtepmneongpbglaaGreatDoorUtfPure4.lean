/- The layer utf in plain Lean: characters as bytes and back, units and back. -/
import Derived.Test.YtepmneongpbglaaGreatDoorUtfPure3
namespace Go.Proofs.YtepmneongpbglaaGreatDoor
open Go Go.RowKit
set_option linter.all false
theorem by8_zero (n : Nat) (t : List UInt8) (h : n < 256) : by8 (UInt8.ofNat n :: t) 0 = n := by
  show (UInt8.ofNat n).toNat = n
  rw [UInt8.toNat_ofNat']; omega
theorem by8_cons (b : UInt8) (t : List UInt8) (k : Nat) : by8 (b :: t) (k + 1) = by8 t k := rfl
theorem okc_le {c : Nat} (h : okc c) : c ≤ 1114111 := by unfold okc at h; omega
/-- a character's bytes are read as that character -/
theorem chr_enc (c : Nat) (h : okc c) : chr (enc c) 0 = (c, (enc c).length) := by
  have hle := okc_le h
  unfold okc at h
  unfold enc
  by_cases h1 : c < 128
  · rw [if_pos h1]
    unfold chr
    rw [by8_zero c _ (by omega), if_neg (by simp), if_pos h1]
    rfl
  rw [if_neg h1]
  by_cases h2 : c < 2048
  · rw [if_pos h2]
    have b0 := by8_zero (192 + c / 64) [UInt8.ofNat (128 + c % 64)] (by omega)
    have b1 : by8 [UInt8.ofNat (192 + c / 64), UInt8.ofNat (128 + c % 64)] 1 = 128 + c % 64 := (by8_cons _ _ 0).trans (by8_zero _ _ (by omega))
    generalize hL : [UInt8.ofNat (192 + c / 64), UInt8.ofNat (128 + c % 64)] = L at *
    have hl : L.length = 2 := by rw [← hL]; rfl
    have hv : chrN L 0 2 (192 + c / 64 - 192) 128 = (c, 2) := by
      have e : valB L 0 (192 + c / 64 - 192) 1 = c := by
        show (192 + c / 64 - 192) * 64 + by8 L 1 - 128 = c
        rw [b1]; omega
      have hc : contB L 0 1 = true := by
        show (true && (decide (128 ≤ by8 L 1) && decide (by8 L 1 < 192))) = true
        rw [b1]; simp; omega
      unfold chrN
      rw [show (2 : Nat) - 1 = 1 from rfl, e, if_pos ⟨by omega, hc, by omega, by omega, by omega⟩]
    unfold chr
    rw [b0, if_neg (by omega), if_neg (by omega), if_pos (by omega), hv, hl]
  rw [if_neg h2]
  by_cases h3 : c < 65536
  · rw [if_pos h3]
    have b0 := by8_zero (224 + c / 4096) [UInt8.ofNat (128 + c / 64 % 64), UInt8.ofNat (128 + c % 64)] (by omega)
    have b1 : by8 [UInt8.ofNat (224 + c / 4096), UInt8.ofNat (128 + c / 64 % 64), UInt8.ofNat (128 + c % 64)] 1 = 128 + c / 64 % 64 := (by8_cons _ _ 0).trans (by8_zero _ _ (by omega))
    have b2 : by8 [UInt8.ofNat (224 + c / 4096), UInt8.ofNat (128 + c / 64 % 64), UInt8.ofNat (128 + c % 64)] 2 = 128 + c % 64 := (by8_cons _ _ 1).trans ((by8_cons _ _ 0).trans (by8_zero _ _ (by omega)))
    generalize hL : [UInt8.ofNat (224 + c / 4096), UInt8.ofNat (128 + c / 64 % 64), UInt8.ofNat (128 + c % 64)] = L at *
    have hl : L.length = 3 := by rw [← hL]; rfl
    have hv : chrN L 0 3 (224 + c / 4096 - 224) 2048 = (c, 3) := by
      have e : valB L 0 (224 + c / 4096 - 224) 2 = c := by
        show ((224 + c / 4096 - 224) * 64 + by8 L 1 - 128) * 64 + by8 L 2 - 128 = c
        rw [b1, b2]; omega
      have hc : contB L 0 2 = true := by
        show (true && (decide (128 ≤ by8 L 1) && decide (by8 L 1 < 192)) && (decide (128 ≤ by8 L 2) && decide (by8 L 2 < 192))) = true
        rw [b1, b2]; simp; omega
      unfold chrN
      rw [show (3 : Nat) - 1 = 2 from rfl, e, if_pos ⟨by omega, hc, by omega, by omega, by omega⟩]
    unfold chr
    rw [b0, if_neg (by omega), if_neg (by omega), if_neg (by omega), if_pos (by omega), hv, hl]
  rw [if_neg h3]
  have b0 := by8_zero (240 + c / 262144) [UInt8.ofNat (128 + c / 4096 % 64), UInt8.ofNat (128 + c / 64 % 64), UInt8.ofNat (128 + c % 64)] (by omega)
  have b1 : by8 [UInt8.ofNat (240 + c / 262144), UInt8.ofNat (128 + c / 4096 % 64), UInt8.ofNat (128 + c / 64 % 64), UInt8.ofNat (128 + c % 64)] 1 = 128 + c / 4096 % 64 := (by8_cons _ _ 0).trans (by8_zero _ _ (by omega))
  have b2 : by8 [UInt8.ofNat (240 + c / 262144), UInt8.ofNat (128 + c / 4096 % 64), UInt8.ofNat (128 + c / 64 % 64), UInt8.ofNat (128 + c % 64)] 2 = 128 + c / 64 % 64 := (by8_cons _ _ 1).trans ((by8_cons _ _ 0).trans (by8_zero _ _ (by omega)))
  have b3 : by8 [UInt8.ofNat (240 + c / 262144), UInt8.ofNat (128 + c / 4096 % 64), UInt8.ofNat (128 + c / 64 % 64), UInt8.ofNat (128 + c % 64)] 3 = 128 + c % 64 := (by8_cons _ _ 2).trans ((by8_cons _ _ 1).trans ((by8_cons _ _ 0).trans (by8_zero _ _ (by omega))))
  generalize hL : [UInt8.ofNat (240 + c / 262144), UInt8.ofNat (128 + c / 4096 % 64), UInt8.ofNat (128 + c / 64 % 64), UInt8.ofNat (128 + c % 64)] = L at *
  have hl : L.length = 4 := by rw [← hL]; rfl
  have hv : chrN L 0 4 (240 + c / 262144 - 240) 65536 = (c, 4) := by
    have e : valB L 0 (240 + c / 262144 - 240) 3 = c := by
      show (((240 + c / 262144 - 240) * 64 + by8 L 1 - 128) * 64 + by8 L 2 - 128) * 64 + by8 L 3 - 128 = c
      rw [b1, b2, b3]; omega
    have hc : contB L 0 3 = true := by
      show (true && (decide (128 ≤ by8 L 1) && decide (by8 L 1 < 192)) && (decide (128 ≤ by8 L 2) && decide (by8 L 2 < 192)) && (decide (128 ≤ by8 L 3) && decide (by8 L 3 < 192))) = true
      rw [b1, b2, b3]; simp; omega
    unfold chrN
    rw [show (4 : Nat) - 1 = 3 from rfl, e, if_pos ⟨by omega, hc, by omega, by omega, by omega⟩]
  unfold chr
  rw [b0, if_neg (by omega), if_neg (by omega), if_neg (by omega), if_neg (by omega), if_pos (by omega), hv, hl]
theorem enc_pos (c : Nat) : (enc c).length ≠ 0 := by
  unfold enc
  repeat' split
  all_goals simp
theorem wideR_nil : wideR [] = ([], 0, 0) := by rw [wideR, wideGo, if_neg (by simp)]
theorem wideR_enc (c : Nat) (h : okc c) : wideR (enc c) = (units c, 0, 0) := by
  have hp := enc_pos c
  rw [wideR, wideGo, if_pos (by omega), chr_enc c h]
  simp only
  rw [if_neg hp, wideGo, if_neg (by omega)]
  rfl
/-- characters' bytes are turned to their units -/
theorem wideR_flat (cs : List Nat) (h : ∀ c ∈ cs, okc c) : wideR (cs.flatMap enc) = (cs.flatMap units, 0, 0) := by
  induction cs with
  | nil => exact wideR_nil
  | cons c cs ih =>
    have h1 := wideR_enc c (h c (by simp))
    have h2 := ih fun x hx => h x (by simp [hx])
    rw [List.flatMap_cons, List.flatMap_cons, wideR_append _ _ (by rw [h1]) (by rw [h2]), h1, h2]
theorem at16_right (a b : List UInt8) (k : Nat) (h : a.length % 2 = 0) : at16 (a ++ b) (a.length / 2 + k) = at16 b k := by
  unfold at16
  rw [show 2 * (a.length / 2 + k) = a.length + 2 * k by omega, by8_right, show a.length + 2 * k + 1 = a.length + (2 * k + 1) by omega, by8_right]
theorem at16_left (a b : List UInt8) (k : Nat) (h : 2 * k + 1 < a.length) : at16 (a ++ b) k = at16 a k := by
  unfold at16; rw [by8_left a b _ (by omega), by8_left a b _ (by omega)]
theorem at16_unit8 (u : Nat) (t : List UInt8) (h : u < 65536) : at16 (unit8 u ++ t) 0 = u := by
  rw [at16_left _ _ _ (by rw [unit8_length]; omega)]
  unfold at16 unit8
  rw [show 2 * 0 = 0 from rfl, by8_zero _ _ (by omega), by8_cons, by8_zero _ _ (by omega)]; omega
theorem units_even (c : Nat) : (units c).length % 2 = 0 := by unfold units; split <;> simp [unit8]
theorem units_half (c : Nat) : (units c).length / 2 = if 65536 ≤ c then 2 else 1 := by unfold units; split <;> simp [unit8]
theorem nst_right (a b : List UInt8) (i : Nat) (h : a.length % 2 = 0) : nst (a ++ b) (a.length / 2 + i) = nst b i := by
  unfold nst
  rw [at16_right a b i h, Nat.add_assoc, at16_right a b (i + 1) h, List.length_append, show (a.length + b.length) / 2 = a.length / 2 + b.length / 2 by omega]
  simp only [Nat.add_lt_add_iff_left]
theorem nst_units (c : Nat) (t : List UInt8) (h : okc c) : nst (units c ++ t) 0 = (c, (units c).length / 2) := by
  have hle := okc_le h
  unfold okc at h
  rw [units_half]
  by_cases h1 : 65536 ≤ c
  · rw [if_pos h1]
    have e : units c = unit8 (55296 + (c - 65536) / 1024) ++ unit8 (56320 + (c - 65536) % 1024) := by rw [units, if_pos h1]
    have a0 : at16 (units c ++ t) 0 = 55296 + (c - 65536) / 1024 := by rw [e, List.append_assoc, at16_unit8 _ _ (by omega)]
    have a1 : at16 (units c ++ t) (0 + 1) = 56320 + (c - 65536) % 1024 := by
      have := at16_right (unit8 (55296 + (c - 65536) / 1024)) (unit8 (56320 + (c - 65536) % 1024) ++ t) 0 (by rw [unit8_length])
      rw [unit8_length, at16_unit8 _ _ (by omega)] at this
      rw [e, List.append_assoc]
      exact this
    have hl : 0 + 1 < (units c ++ t).length / 2 := by rw [List.length_append, e, List.length_append, unit8_length, unit8_length]; omega
    unfold nst
    rw [a0, a1, if_pos ⟨by omega, hl, by omega⟩]
    exact Prod.ext (by simp only; omega) rfl
  · rw [if_neg h1]
    have a0 : at16 (units c ++ t) 0 = c := by rw [units, if_neg h1, at16_unit8 _ _ (by omega)]
    unfold nst
    rw [a0, if_neg (by omega), if_neg (by omega)]
theorem narGo_flat (cs : List Nat) : ∀ (pre acc : List UInt8), (∀ c ∈ cs, okc c) → pre.length % 2 = 0 → narGo (pre ++ cs.flatMap units) (pre.length / 2) acc = acc ++ cs.flatMap enc := by
  induction cs with
  | nil =>
    intro pre acc _ hp
    rw [narGo, if_neg (by simp)]
    simp
  | cons c cs ih =>
    intro pre acc h hp
    have hc := h c (by simp)
    have hu := units_even c
    have hh := units_half c
    have hpos : 2 ≤ (units c).length := by split at hh <;> omega
    rw [List.flatMap_cons, List.flatMap_cons]
    have hn := nst_right pre (units c ++ cs.flatMap units) 0 hp
    rw [Nat.add_zero, nst_units c _ hc] at hn
    rw [narGo, if_pos (by rw [List.length_append, List.length_append]; omega), hn]
    simp only
    have := ih (pre ++ units c) (acc ++ enc c) (fun x hx => h x (by simp [hx])) (by rw [List.length_append]; omega)
    rw [List.length_append, show (pre.length + (units c).length) / 2 = pre.length / 2 + (units c).length / 2 by omega, List.append_assoc] at this
    rw [this, List.append_assoc]
/-- units that are characters' come back as the characters' bytes -/
theorem narR_flat (cs : List Nat) (h : ∀ c ∈ cs, okc c) : narR (cs.flatMap units) = (cs.flatMap enc, 0) := by
  have he : (cs.flatMap units).length % 2 = 0 := by
    clear h
    induction cs with
    | nil => rfl
    | cons c cs ih => rw [List.flatMap_cons, List.length_append]; have := units_even c; omega
  rw [narR, if_neg (by omega)]
  have := narGo_flat cs [] [] h rfl
  simpa using this
end Go.Proofs.YtepmneongpbglaaGreatDoor
