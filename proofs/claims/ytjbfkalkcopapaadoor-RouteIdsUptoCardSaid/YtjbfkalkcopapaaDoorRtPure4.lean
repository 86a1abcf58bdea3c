/- The document's answer for a web target, by places in the text. No program in sight. -/
import Derived.Test.YtjbfkalkcopapaaDoorRtPure3
namespace Go.Proofs.YtjbfkalkcopapaaDoor
open Go Go.RowKit
set_option linter.all false
theorem tw_facts (p : UInt8 → Bool) (l : Bytes) : ∃ k, k ≤ l.length ∧ l.takeWhile p = l.take k ∧ l.dropWhile p = l.drop k ∧ (∀ j, j < k → p (l.getD j 0) = true) ∧ (k = l.length ∨ (k < l.length ∧ p (l.getD k 0) = false)) := by
  induction l with
  | nil => exact ⟨0, Nat.le_refl _, rfl, rfl, fun j h => by omega, .inl rfl⟩
  | cons c r ih =>
    by_cases hc : p c = true
    · obtain ⟨k, h1, h2, h3, h4, h5⟩ := ih
      refine ⟨k + 1, by simp; omega, ?_, ?_, fun j hj => ?_, ?_⟩
      · rw [List.takeWhile_cons, if_pos hc, h2, List.take_succ_cons]
      · rw [List.dropWhile_cons, if_pos hc, h3, List.drop_succ_cons]
      · cases j with
        | zero => exact hc
        | succ j => exact h4 j (by omega)
      · rcases h5 with h5 | ⟨h5, h6⟩
        · exact .inl (by simp [h5])
        · exact .inr ⟨by simp; omega, h6⟩
    · have hc' : p c = false := by simpa using hc
      refine ⟨0, Nat.zero_le _, ?_, ?_, fun j h => by omega, .inr ⟨by simp, hc'⟩⟩
      · rw [List.takeWhile_cons, if_neg hc]; rfl
      · rw [List.dropWhile_cons, if_neg hc]; rfl
theorem getD_drop8 (t : Bytes) (a j : Nat) : (t.drop a).getD j 0 = t.getD (a + j) 0 := by
  simp [List.getD_eq_getElem?_getD]
theorem by8_eq {t : Bytes} {n : Nat} {c : UInt8} : t.getD n 0 = c ↔ by8 t n = c.toNat := by
  unfold by8
  exact UInt8.toNat_inj.symm
theorem head_drop8 {t : Bytes} {n : Nat} (h : n < t.length) : (t.drop n).head? = some (t.getD n 0) := by
  rw [List.head?_drop, List.getElem?_eq_getElem h]
  simp [List.getD_eq_getElem?_getD, h]
theorem sub_to_end (t : Bytes) (n : Nat) : sub t n t.length = t.drop n := by
  unfold sub
  rw [List.take_of_length_le (by rw [List.length_drop]; omega)]
theorem drop_nil_of {t : Bytes} : t.drop t.length = [] := by simp
theorem drop_ne_nil {t : Bytes} {n : Nat} (h : n < t.length) : t.drop n ≠ [] := by
  intro e
  have := congrArg List.length e
  rw [List.length_drop] at this
  simp at this
  omega
/-- the three ways at the host's end, and those at the port's end -/
inductive UrlWay (t : Bytes) (o : Option Adr) : Prop
  | bare (N : Nat) (h7 : 7 ≤ N) (hN : N = t.length) (hg : ∀ j, 7 ≤ j → j < N → goB (t.getD j 0) = true) (he : o = fin6 (sub t 7 N) 80 [47])
  | path (N : Nat) (h7 : 7 ≤ N) (hN : N < t.length) (hg : ∀ j, 7 ≤ j → j < N → goB (t.getD j 0) = true) (h47 : by8 t N = 47) (he : o = fin6 (sub t 7 N) 80 (sub t N t.length))
  | badport (N F M : Nat) (hF : F = N + 1) (h7 : 7 ≤ N) (hN : N < t.length) (hg : ∀ j, 7 ≤ j → j < N → goB (t.getD j 0) = true) (h58 : by8 t N = 58) (hM : F ≤ M) (hMl : M ≤ t.length)
      (hd : ∀ j, F ≤ j → j < M → digB (t.getD j 0) = true) (hz : M = t.length ∨ (M < t.length ∧ digB (t.getD M 0) = false)) (hb : M = F ∨ by8 t F = 48 ∨ 65535 < dval 0 (sub t F M)) (he : o = none)
  | portend (N F M : Nat) (hF : F = N + 1) (h7 : 7 ≤ N) (hN : N < t.length) (hg : ∀ j, 7 ≤ j → j < N → goB (t.getD j 0) = true) (h58 : by8 t N = 58) (hM : F < M) (hMl : M = t.length)
      (hd : ∀ j, F ≤ j → j < M → digB (t.getD j 0) = true) (h48 : by8 t F ≠ 48) (hv : dval 0 (sub t F M) ≤ 65535) (he : o = fin6 (sub t 7 N) (dval 0 (sub t F M)) [47])
  | portpath (N F M : Nat) (hF : F = N + 1) (h7 : 7 ≤ N) (hN : N < t.length) (hg : ∀ j, 7 ≤ j → j < N → goB (t.getD j 0) = true) (h58 : by8 t N = 58) (hM : F < M) (hMl : M < t.length)
      (hd : ∀ j, F ≤ j → j < M → digB (t.getD j 0) = true) (h48 : by8 t F ≠ 48) (hv : dval 0 (sub t F M) ≤ 65535) (h47 : by8 t M = 47) (he : o = fin6 (sub t 7 N) (dval 0 (sub t F M)) (sub t M t.length))
  | portbad (N F M : Nat) (hF : F = N + 1) (h7 : 7 ≤ N) (hN : N < t.length) (hg : ∀ j, 7 ≤ j → j < N → goB (t.getD j 0) = true) (h58 : by8 t N = 58) (hM : F < M) (hMl : M < t.length)
      (hd : ∀ j, F ≤ j → j < M → digB (t.getD j 0) = true) (hz : digB (t.getD M 0) = false) (h48 : by8 t F ≠ 48) (hv : dval 0 (sub t F M) ≤ 65535) (h47 : by8 t M ≠ 47) (he : o = none)
theorem url_way {t : Bytes} (h : headH <+: t) (hl : t.length ≤ 256) : UrlWay t (url t) := by
  have h7l : 7 ≤ t.length := by have := h.length_le; have e : headH.length = 7 := rfl; omega
  have hu : url t = rInner (t.drop 7) := by rw [url_inner, if_pos ⟨h, hl⟩]
  obtain ⟨k, hk, e1, e2, hall, hend⟩ := tw_facts goB (t.drop 7)
  rw [List.length_drop] at hk hend
  have f1 : (t.drop 7).takeWhile goB = sub t 7 (7 + k) := by rw [e1, sub]; congr 1; omega
  have f2 : (t.drop 7).dropWhile goB = t.drop (7 + k) := by rw [e2, List.drop_drop]
  have hg : ∀ j, 7 ≤ j → j < 7 + k → goB (t.getD j 0) = true := fun j h1 h2 => by
    have := hall (j - 7) (by omega)
    rw [getD_drop8, show 7 + (j - 7) = j by omega] at this
    exact this
  unfold rInner at hu
  rw [f1, f2] at hu
  rcases hend with hend | ⟨hlt, hstop⟩
  · have hN : 7 + k = t.length := by omega
    refine .bare (7 + k) (by omega) hN hg ?_
    rw [hu, hN, drop_nil_of, if_neg (by simp)]
    rfl
  · rw [getD_drop8] at hstop
    have hN : 7 + k < t.length := by omega
    have h2 : by8 t (7 + k) = 47 ∨ by8 t (7 + k) = 58 := by
      have : t.getD (7 + k) 0 = 47 ∨ t.getD (7 + k) 0 = 58 := by
        simp only [goB, Bool.and_eq_false_iff, bne_eq_false_iff_eq] at hstop
        exact hstop
      rcases this with h | h
      · exact .inl (by8_eq.1 h)
      · exact .inr (by8_eq.1 h)
    rcases h2 with h47 | h58
    · refine .path (7 + k) (by omega) hN hg h47 ?_
      rw [hu, head_drop8 hN, if_neg (by
        intro e
        have := by8_eq.1 (Option.some.inj e)
        rw [h47] at this
        revert this
        decide), sub_to_end]
      unfold orSlash
      rw [if_neg (drop_ne_nil hN)]
    · have hh : (t.drop (7 + k)).head? = some 58 := by rw [head_drop8 hN, (by8_eq (c := 58)).2 h58]
      rw [if_pos hh, List.drop_drop] at hu
      obtain ⟨i, hi, g1, g2, gall, gend⟩ := tw_facts digB (t.drop (7 + k + 1))
      rw [List.length_drop] at hi gend
      have k1 : (t.drop (7 + k + 1)).takeWhile digB = sub t (7 + k + 1) (7 + k + 1 + i) := by rw [g1, sub]; congr 1; omega
      have k2 : (t.drop (7 + k + 1)).dropWhile digB = t.drop (7 + k + 1 + i) := by rw [g2, List.drop_drop]
      have hd : ∀ j, 7 + k + 1 ≤ j → j < 7 + k + 1 + i → digB (t.getD j 0) = true := fun j h1 h2 => by
        have := gall (j - (7 + k + 1)) (by omega)
        rw [getD_drop8, show 7 + k + 1 + (j - (7 + k + 1)) = j by omega] at this
        exact this
      have hz : 7 + k + 1 + i = t.length ∨ (7 + k + 1 + i < t.length ∧ digB (t.getD (7 + k + 1 + i) 0) = false) := by
        rcases gend with h | ⟨h, h'⟩
        · exact .inl (by omega)
        · rw [getD_drop8] at h'
          exact .inr ⟨by omega, h'⟩
      rw [k1, k2] at hu
      have hemp : sub t (7 + k + 1) (7 + k + 1 + i) = [] ↔ i = 0 := by
        rw [← List.length_eq_zero_iff, length_sub]
        omega
      have hhd : 0 < i → (sub t (7 + k + 1) (7 + k + 1 + i)).head?.map (·.toNat) = some (by8 t (7 + k + 1)) := fun h0 => by
        unfold sub
        rw [List.head?_take, if_neg (by omega), head_drop8 (by omega)]
        rfl
      by_cases hbad : sub t (7 + k + 1) (7 + k + 1 + i) = [] ∨ (sub t (7 + k + 1) (7 + k + 1 + i)).head?.map (·.toNat) = some 48 ∨ 65535 < dval 0 (sub t (7 + k + 1) (7 + k + 1 + i))
      · rw [if_pos hbad] at hu
        refine .badport (7 + k) (7 + k + 1) (7 + k + 1 + i) rfl (by omega) hN hg h58 (by omega) (by omega) hd hz ?_ hu
        rcases hbad with h | h | h
        · have := hemp.1 h
          exact .inl (by omega)
        · by_cases h0 : i = 0
          · exact .inl (by omega)
          · rw [hhd (by omega)] at h
            exact .inr (.inl (Option.some.inj h))
        · exact .inr (.inr h)
      · rw [if_neg hbad] at hu
        have h0 : 0 < i := by
          rcases Nat.eq_zero_or_pos i with h | h
          · exact absurd (.inl (hemp.2 h)) hbad
          · exact h
        have h48 : by8 t (7 + k + 1) ≠ 48 := fun h => hbad (.inr (.inl (by rw [hhd h0, h])))
        have hv : dval 0 (sub t (7 + k + 1) (7 + k + 1 + i)) ≤ 65535 := by
          have := fun h => hbad (.inr (.inr h))
          omega
        rcases hz with hM | ⟨hM, hz⟩
        · refine .portend (7 + k) (7 + k + 1) (7 + k + 1 + i) rfl (by omega) hN hg h58 (by omega) hM hd h48 hv ?_
          have e : t.drop (7 + k + 1 + i) = [] := by rw [hM]; exact drop_nil_of
          rw [hu, e, if_neg (by simp)]
          rfl
        · have hm : (t.drop (7 + k + 1 + i)).head? = some (t.getD (7 + k + 1 + i) 0) := head_drop8 hM
          by_cases h47 : by8 t (7 + k + 1 + i) = 47
          · refine .portpath (7 + k) (7 + k + 1) (7 + k + 1 + i) rfl (by omega) hN hg h58 (by omega) hM hd h48 hv h47 ?_
            rw [hu, hm, (by8_eq (c := 47)).2 h47, if_neg (by simp), sub_to_end]
            unfold orSlash
            rw [if_neg (drop_ne_nil hM)]
          · refine .portbad (7 + k) (7 + k + 1) (7 + k + 1 + i) rfl (by omega) hN hg h58 (by omega) hM hd hz h48 hv h47 ?_
            rw [hu, if_pos ⟨drop_ne_nil hM, by rw [hm]; intro e; exact h47 (by8_eq.1 (Option.some.inj e))⟩]
end Go.Proofs.YtjbfkalkcopapaaDoor
