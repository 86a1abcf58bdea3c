/- The layer utf in plain Lean: every right text is its characters' bytes; every wide text of whole units comes back but for lone halves. -/
import Derived.Test.YtaknfofppknloaaGreatDoorUtfPure4
namespace Go.Proofs.YtaknfofppknloaaGreatDoor
open Go Go.RowKit
set_option linter.all false
theorem sub_one (l : List UInt8) (i : Nat) (h : i + 1 ≤ l.length) : sub l i (i + 1) = [UInt8.ofNat (by8 l i)] := by
  rw [sub_cons l (by omega) (by omega), sub_nil l (Nat.le_refl _)]
theorem sub_2 (l : List UInt8) (i : Nat) (h : i + 2 ≤ l.length) : sub l i (i + 2) = [UInt8.ofNat (by8 l i), UInt8.ofNat (by8 l (i + 1))] := by
  rw [sub_cons l (by omega) (by omega), sub_one l (i + 1) (by omega)]
theorem sub_3 (l : List UInt8) (i : Nat) (h : i + 3 ≤ l.length) : sub l i (i + 3) = [UInt8.ofNat (by8 l i), UInt8.ofNat (by8 l (i + 1)), UInt8.ofNat (by8 l (i + 2))] := by
  rw [sub_cons l (by omega) (by omega), sub_2 l (i + 1) (by omega)]
theorem sub_4 (l : List UInt8) (i : Nat) (h : i + 4 ≤ l.length) : sub l i (i + 4) = [UInt8.ofNat (by8 l i), UInt8.ofNat (by8 l (i + 1)), UInt8.ofNat (by8 l (i + 2)), UInt8.ofNat (by8 l (i + 3))] := by
  rw [sub_cons l (by omega) (by omega), sub_3 l (i + 1) (by omega)]
theorem chrN_yes (l : List UInt8) (i n c low : Nat) (h : (chrN l i n c low).2 ≠ 0) : chrN l i n c low = (valB l i c (n - 1), n) ∧ i + n ≤ l.length ∧ contB l i (n - 1) = true ∧ low ≤ valB l i c (n - 1) ∧ valB l i c (n - 1) ≤ 1114111 ∧ ¬ (55296 ≤ valB l i c (n - 1) ∧ valB l i c (n - 1) < 57344) := by
  unfold chrN at *
  split at h
  · rename_i hh; rw [if_pos hh]; exact ⟨rfl, hh⟩
  · exact absurd rfl h
theorem enc_chr (l : List UInt8) (i : Nat) (h : (chr l i).2 ≠ 0) : okc (chr l i).1 ∧ sub l i (i + (chr l i).2) = enc (chr l i).1 := by
  have l0 := by8_lt l i
  unfold chr at *
  split at h
  · exact absurd rfl h
  rename_i h0
  rw [if_neg h0]
  split at h
  · rename_i h1
    rw [if_pos h1]
    refine ⟨.inl (by simp only; omega), ?_⟩
    simp only
    rw [sub_one l i (by omega), enc, if_pos h1]
  rename_i h1; rw [if_neg h1]
  split at h
  · rename_i h2; rw [if_pos h2]
    obtain ⟨e, h3, h4, h5, h6, h7⟩ := chrN_yes _ _ _ _ _ h
    rw [e]
    have hc : (true && (decide (128 ≤ by8 l (i + 1)) && decide (by8 l (i + 1) < 192))) = true := h4
    have hv : valB l i (by8 l i - 192) (2 - 1) = (by8 l i - 192) * 64 + by8 l (i + 1) - 128 := rfl
    simp only [Bool.true_and, Bool.and_eq_true, decide_eq_true_eq] at hc
    rw [hv] at h5 h6 h7 ⊢
    simp only
    refine ⟨by unfold okc; omega, ?_⟩
    rw [sub_2 l i h3, enc, if_neg (by omega), if_pos (by omega)]
    rw [show 192 + ((by8 l i - 192) * 64 + by8 l (i + 1) - 128) / 64 = by8 l i by omega, show 128 + ((by8 l i - 192) * 64 + by8 l (i + 1) - 128) % 64 = by8 l (i + 1) by omega]
  rename_i h2; rw [if_neg h2]
  split at h
  · rename_i h3'; rw [if_pos h3']
    obtain ⟨e, h3, h4, h5, h6, h7⟩ := chrN_yes _ _ _ _ _ h
    rw [e]
    have hc : (true && (decide (128 ≤ by8 l (i + 1)) && decide (by8 l (i + 1) < 192)) && (decide (128 ≤ by8 l (i + 2)) && decide (by8 l (i + 2) < 192))) = true := h4
    have hv : valB l i (by8 l i - 224) (3 - 1) = ((by8 l i - 224) * 64 + by8 l (i + 1) - 128) * 64 + by8 l (i + 2) - 128 := rfl
    simp only [Bool.true_and, Bool.and_eq_true, decide_eq_true_eq] at hc
    rw [hv] at h5 h6 h7 ⊢
    simp only
    refine ⟨by unfold okc; omega, ?_⟩
    rw [sub_3 l i h3, enc, if_neg (by omega), if_neg (by omega), if_pos (by omega)]
    rw [show 224 + (((by8 l i - 224) * 64 + by8 l (i + 1) - 128) * 64 + by8 l (i + 2) - 128) / 4096 = by8 l i by omega, show 128 + (((by8 l i - 224) * 64 + by8 l (i + 1) - 128) * 64 + by8 l (i + 2) - 128) / 64 % 64 = by8 l (i + 1) by omega, show 128 + (((by8 l i - 224) * 64 + by8 l (i + 1) - 128) * 64 + by8 l (i + 2) - 128) % 64 = by8 l (i + 2) by omega]
  rename_i h3'; rw [if_neg h3']
  split at h
  · rename_i h4'; rw [if_pos h4']
    obtain ⟨e, h3, h4, h5, h6, h7⟩ := chrN_yes _ _ _ _ _ h
    rw [e]
    have hc : (true && (decide (128 ≤ by8 l (i + 1)) && decide (by8 l (i + 1) < 192)) && (decide (128 ≤ by8 l (i + 2)) && decide (by8 l (i + 2) < 192)) && (decide (128 ≤ by8 l (i + 3)) && decide (by8 l (i + 3) < 192))) = true := h4
    have hv : valB l i (by8 l i - 240) (4 - 1) = (((by8 l i - 240) * 64 + by8 l (i + 1) - 128) * 64 + by8 l (i + 2) - 128) * 64 + by8 l (i + 3) - 128 := rfl
    simp only [Bool.true_and, Bool.and_eq_true, decide_eq_true_eq] at hc
    rw [hv] at h5 h6 h7 ⊢
    simp only
    refine ⟨by unfold okc; omega, ?_⟩
    rw [sub_4 l i h3, enc, if_neg (by omega), if_neg (by omega), if_neg (by omega)]
    rw [show 240 + ((((by8 l i - 240) * 64 + by8 l (i + 1) - 128) * 64 + by8 l (i + 2) - 128) * 64 + by8 l (i + 3) - 128) / 262144 = by8 l i by omega, show 128 + ((((by8 l i - 240) * 64 + by8 l (i + 1) - 128) * 64 + by8 l (i + 2) - 128) * 64 + by8 l (i + 3) - 128) / 4096 % 64 = by8 l (i + 1) by omega, show 128 + ((((by8 l i - 240) * 64 + by8 l (i + 1) - 128) * 64 + by8 l (i + 2) - 128) * 64 + by8 l (i + 3) - 128) / 64 % 64 = by8 l (i + 2) by omega, show 128 + ((((by8 l i - 240) * 64 + by8 l (i + 1) - 128) * 64 + by8 l (i + 2) - 128) * 64 + by8 l (i + 3) - 128) % 64 = by8 l (i + 3) by omega]
  · exact absurd rfl h
theorem wideGo_chars (l : List UInt8) (n : Nat) : ∀ i acc, l.length - i ≤ n → i ≤ l.length → (wideGo l i acc).2.2 = 0 →
    ∃ cs : List Nat, (∀ c ∈ cs, okc c) ∧ sub l i l.length = cs.flatMap enc ∧ (wideGo l i acc).1 = acc ++ cs.flatMap units := by
  induction n with
  | zero =>
    intro i acc h hi _
    refine ⟨[], by simp, ?_, ?_⟩
    · rw [sub_nil l (by omega)]; rfl
    · rw [wideGo, if_neg (by omega)]; simp
  | succ n ih =>
    intro i acc h hi hz
    by_cases hlt : i < l.length
    · have e1 : wideGo l i acc = if (chr l i).2 = 0 then ([], i, 10) else wideGo l (i + (chr l i).2) (acc ++ units (chr l i).1) := by rw [wideGo, if_pos hlt]
      by_cases hc : (chr l i).2 = 0
      · rw [e1, if_pos hc] at hz; simp at hz
      · rw [if_neg hc] at e1
        rw [e1] at hz ⊢
        have hend := chr_end l i hc
        obtain ⟨cs, h1, h2, h3⟩ := ih _ _ (by omega) hend hz
        obtain ⟨k1, k2⟩ := enc_chr l i hc
        refine ⟨(chr l i).1 :: cs, ?_, ?_, ?_⟩
        · intro c hcm
          rcases List.mem_cons.1 hcm with rfl | hcm
          · exact k1
          · exact h1 c hcm
        · rw [List.flatMap_cons, ← k2, ← h2, sub_append l (by omega) hend]
        · rw [h3, List.flatMap_cons, List.append_assoc]
    · refine ⟨[], by simp, ?_, ?_⟩
      · rw [sub_nil l (by omega)]; rfl
      · rw [wideGo, if_neg hlt]; simp
/-- what is UTF-8 comes back from its units -/
theorem narR_wideR (l : List UInt8) (h : (wideR l).2.2 = 0) : narR (wideR l).1 = (l, 0) := by
  obtain ⟨cs, h1, h2, h3⟩ := wideGo_chars l l.length 0 [] (by omega) (by omega) h
  rw [sub_all l (Nat.le_refl _)] at h2
  have h3' : (wideR l).1 = cs.flatMap units := by rw [wideR, h3]; simp
  rw [h3', narR_flat cs h1, ← h2]
theorem nst_step (l t : List UInt8) (i : Nat) : (units (nst l i).1).length = 2 * (nst l i).2 ∧
    ∀ k, k < (nst l i).2 → at16 (units (nst l i).1 ++ t) k = at16 l (i + k) ∨ (at16 (units (nst l i).1 ++ t) k = 65533 ∧ 55296 ≤ at16 l (i + k) ∧ at16 l (i + k) ≤ 57343) := by
  have a0 := at16_lt l i
  have a1 := at16_lt l (i + 1)
  unfold nst
  split
  · rename_i h
    generalize hc : 65536 + (at16 l i - 55296) * 1024 + at16 l (i + 1) - 56320 = c at *
    have e : units c = unit8 (55296 + (c - 65536) / 1024) ++ unit8 (56320 + (c - 65536) % 1024) := by rw [units, if_pos (by omega)]
    refine ⟨by simp only; rw [e, List.length_append, unit8_length, unit8_length], fun k hk => .inl ?_⟩
    simp only at hk ⊢
    by_cases hk0 : k = 0
    · subst hk0
      rw [e, List.append_assoc, at16_unit8 _ _ (by omega), Nat.add_zero]; omega
    · obtain rfl : k = 1 := by omega
      have := at16_right (unit8 (55296 + (c - 65536) / 1024)) (unit8 (56320 + (c - 65536) % 1024) ++ t) 0 (by rw [unit8_length])
      rw [unit8_length, at16_unit8 _ _ (by omega)] at this
      rw [e, List.append_assoc]
      exact this.trans (by omega)
  split
  · rename_i h0 h
    refine ⟨rfl, fun k hk => .inr ?_⟩
    simp only at hk ⊢
    obtain rfl : k = 0 := by omega
    rw [units, if_neg (by omega), at16_unit8 _ _ (by omega), Nat.add_zero]
    exact ⟨rfl, h.1, by omega⟩
  · rename_i h0 h
    refine ⟨by simp only; rw [units, if_neg (by omega), unit8_length], fun k hk => .inl ?_⟩
    simp only at hk ⊢
    obtain rfl : k = 0 := by omega
    rw [units, if_neg (by omega), at16_unit8 _ _ (by omega), Nat.add_zero]
theorem narGo_chars (l : List UInt8) (n : Nat) : ∀ i acc, l.length / 2 - i ≤ n → i ≤ l.length / 2 →
    ∃ cs : List Nat, (∀ c ∈ cs, okc c) ∧ narGo l i acc = acc ++ cs.flatMap enc ∧ (cs.flatMap units).length = 2 * (l.length / 2 - i) ∧
      ∀ k, i + k < l.length / 2 → at16 (cs.flatMap units) k = at16 l (i + k) ∨ (at16 (cs.flatMap units) k = 65533 ∧ 55296 ≤ at16 l (i + k) ∧ at16 l (i + k) ≤ 57343) := by
  induction n with
  | zero =>
    intro i acc h hi
    refine ⟨[], by simp, ?_, ?_, fun k hk => by omega⟩
    · rw [narGo, if_neg (by omega)]; simp
    · simp; omega
  | succ n ih =>
    intro i acc h hi
    by_cases hlt : i < l.length / 2
    · have hp := nst_pos l i
      have he := nst_end l i hlt
      obtain ⟨cs, h1, h2, h3, h4⟩ := ih (i + (nst l i).2) (acc ++ enc (nst l i).1) (by omega) he
      obtain ⟨s1, s2⟩ := nst_step l (cs.flatMap units) i
      refine ⟨(nst l i).1 :: cs, ?_, ?_, ?_, fun k hk => ?_⟩
      · intro c hcm
        rcases List.mem_cons.1 hcm with rfl | hcm
        · exact nst_ok l i
        · exact h1 c hcm
      · rw [narGo, if_pos hlt, h2, List.flatMap_cons, List.append_assoc]
      · rw [List.flatMap_cons, List.length_append, s1, h3]; omega
      · rw [List.flatMap_cons]
        by_cases hk2 : k < (nst l i).2
        · exact s2 k hk2
        · have hr := at16_right (units (nst l i).1) (cs.flatMap units) (k - (nst l i).2) (by omega)
          rw [s1, show 2 * (nst l i).2 / 2 + (k - (nst l i).2) = k by omega] at hr
          have := h4 (k - (nst l i).2) (by omega)
          rw [show i + (nst l i).2 + (k - (nst l i).2) = i + k by omega] at this
          rw [hr]
          exact this
    · refine ⟨[], by simp, ?_, ?_, fun k hk => by omega⟩
      · rw [narGo, if_neg hlt]; simp
      · simp; omega
/-- units come back from UTF-8, but for halves that stand alone -/
theorem wideR_narR (l : List UInt8) (h : l.length % 2 = 0) : ∃ Y, wideR (narR l).1 = (Y, 0, 0) ∧ (narR l).2 = 0 ∧ Y.length = l.length ∧
    ∀ k, k < l.length / 2 → at16 Y k = at16 l k ∨ (at16 Y k = 65533 ∧ 55296 ≤ at16 l k ∧ at16 l k ≤ 57343) := by
  obtain ⟨cs, h1, h2, h3, h4⟩ := narGo_chars l (l.length / 2) 0 [] (by omega) (by omega)
  refine ⟨cs.flatMap units, ?_, ?_, by omega, fun k hk => by have := h4 k (by omega); simpa using this⟩
  · rw [narR, if_neg (by omega), h2]
    simp only [List.nil_append]
    exact wideR_flat cs h1
  · rw [narR, if_neg (by omega)]
theorem narGo_len (l : List UInt8) (n : Nat) : ∀ i acc, l.length / 2 - i ≤ n → (narGo l i acc).length ≤ acc.length + 4 * n := by
  induction n with
  | zero => intro i acc h; rw [narGo, if_neg (by omega)]; omega
  | succ n ih =>
    intro i acc h
    rw [narGo]
    by_cases hi : i < l.length / 2
    · rw [if_pos hi]
      have hp := nst_pos l i
      have h1 := ih (i + (nst l i).2) (acc ++ enc (nst l i).1) (by omega)
      rw [List.length_append] at h1
      have h2 := enc_length_le (nst l i).1
      omega
    · rw [if_neg hi]; omega
theorem narR_len (l : List UInt8) : (narR l).1.length ≤ 4 * l.length := by
  unfold narR
  split
  · simp
  · have := narGo_len l (l.length / 2) 0 [] (by omega)
    simp at this ⊢; omega
end Go.Proofs.YtaknfofppknloaaGreatDoor
