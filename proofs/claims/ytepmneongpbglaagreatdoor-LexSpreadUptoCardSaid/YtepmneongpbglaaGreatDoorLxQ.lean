/- Layer 5, in plain words: texts that agree for a while are lexed alike for a while. Layer 5, in plain words: a lexeme is the same where a blank follows it; lexemes spread out by remarks. Layer 5, in plain words: blanks, line ends and remarks ahead of each lexeme change nothing but places and lines. -/
import Derived.Test.YtepmneongpbglaaGreatDoorLxP
namespace Go.Proofs.YtepmneongpbglaaGreatDoor
open Go Go.RowKit
set_option linter.all false
namespace Lx
/-- l' from i' on is l from i on, n bytes long -/
structure Ag (l : List UInt8) (i : Nat) (l' : List UInt8) (i' n : Nat) : Prop where
  h1 : i + n ≤ l.length
  h2 : i' + n ≤ l'.length
  eq : ∀ k, k < n → by8 l' (i' + k) = by8 l (i + k)
section
variable {l l' : List UInt8} {i i' n : Nat}
theorem Ag.mono (h : Ag l i l' i' n) {m : Nat} (hm : m ≤ n) : Ag l i l' i' m := ⟨by have := h.h1; omega, by have := h.h2; omega, fun k hk => h.eq k (by omega)⟩
theorem Ag.sub (h : Ag l i l' i' n) {m : Nat} (hm : m ≤ n) : Ag l (i + m) l' (i' + m) (n - m) :=
  ⟨by have := h.h1; omega, by have := h.h2; omega, fun k hk => by have := h.eq (m + k) (by omega); rw [show i' + m + k = i' + (m + k) by omega, show i + m + k = i + (m + k) by omega]; exact this⟩
theorem contB_ag (h : Ag l i l' i' n) : ∀ k, k + 1 ≤ n → contB l' i' k = contB l i k
  | 0, _ => rfl
  | k + 1, hk => by
    have := h.eq (k + 1) (by omega)
    rw [contB, contB, contB_ag h k (by omega), show i' + k + 1 = i' + (k + 1) by omega, show i + k + 1 = i + (k + 1) by omega, this]
theorem valB_ag (h : Ag l i l' i' n) (c : Nat) : ∀ k, k + 1 ≤ n → valB l' i' c k = valB l i c k
  | 0, _ => rfl
  | k + 1, hk => by
    have := h.eq (k + 1) (by omega)
    show valB l' i' c k * 64 + by8 l' (i' + k + 1) - 128 = valB l i c k * 64 + by8 l (i + k + 1) - 128
    rw [valB_ag h c k (by omega), show i' + k + 1 = i' + (k + 1) by omega, show i + k + 1 = i + (k + 1) by omega, this]
theorem chrN_ag (h : Ag l i l' i' n) {N c low : Nat} (hN : 1 ≤ N) (h0 : (chrN l i N c low).2 ≠ 0) (hn : (chrN l i N c low).2 ≤ n) : chrN l' i' N c low = chrN l i N c low := by
  unfold chrN at h0 hn ⊢
  split at h0
  · rename_i g
    rw [if_pos g] at hn
    simp only at hn
    rw [contB_ag h (N - 1) (by omega), valB_ag h c (N - 1) (by omega), if_pos g, if_pos ⟨by have := h.h2; omega, g.2⟩]
  · exact absurd rfl h0
theorem chr_ag (h : Ag l i l' i' n) (h0 : (chr l i).2 ≠ 0) (hn : (chr l i).2 ≤ n) : chr l' i' = chr l i := by
  have e := h.eq 0 (by omega)
  rw [Nat.add_zero, Nat.add_zero] at e
  have hi' : ¬ l'.length ≤ i' := by have := h.h2; omega
  have hi : ¬ l.length ≤ i := by have := h.h1; omega
  unfold chr at h0 hn ⊢
  rw [if_neg hi] at h0 hn ⊢
  rw [if_neg hi', e]
  by_cases c0 : by8 l i < 128
  · rw [if_pos c0, if_pos c0]
  rw [if_neg c0] at h0 hn ⊢
  rw [if_neg c0]
  by_cases c1 : 192 ≤ by8 l i ∧ by8 l i < 224
  · rw [if_pos c1] at h0 hn ⊢
    rw [if_pos c1]
    exact chrN_ag h (by decide) h0 hn
  rw [if_neg c1] at h0 hn ⊢
  rw [if_neg c1]
  by_cases c2 : 224 ≤ by8 l i ∧ by8 l i < 240
  · rw [if_pos c2] at h0 hn ⊢
    rw [if_pos c2]
    exact chrN_ag h (by decide) h0 hn
  rw [if_neg c2] at h0 hn ⊢
  rw [if_neg c2]
  by_cases c3 : 240 ≤ by8 l i ∧ by8 l i < 248
  · rw [if_pos c3] at h0 hn ⊢
    rw [if_pos c3]
    exact chrN_ag h (by decide) h0 hn
  · rw [if_neg c3] at h0
    exact absurd rfl h0
end
theorem chr_asc {l : List UInt8} {i : Nat} (hi : i < l.length) (h : by8 l i < 128) : chr l i = (by8 l i, 1) := by
  unfold chr; rw [if_neg (by omega), if_pos h]
theorem by8_cons' (b : UInt8) (r : List UInt8) (k : Nat) : by8 (b :: r) (k + 1) = by8 r k := by
  unfold by8; rw [List.getD_eq_getElem?_getD, List.getD_eq_getElem?_getD, List.getElem?_cons_succ]
/-- a text stands at a place, byte for byte -/
theorem pre_iff (l : List UInt8) : ∀ (m : List UInt8) (i : Nat), m.isPrefixOf (l.drop i) = true ↔ (m = [] ∨ i + m.length ≤ l.length) ∧ ∀ k, k < m.length → by8 l (i + k) = by8 m k
  | [], i => by simp
  | b :: r, i => by
    rcases Nat.lt_or_ge i l.length with hi | hi
    · have hd : l.drop i = UInt8.ofNat (by8 l i) :: l.drop (i + 1) := by
        rw [List.drop_eq_getElem_cons hi]
        congr 1
        simp [by8, List.getD_eq_getElem?_getD, List.getElem?_eq_getElem hi]
      have hb := by8_lt l i
      rw [hd, List.isPrefixOf, Bool.and_eq_true, beq_iff_eq, pre_iff l r (i + 1)]
      constructor
      · rintro ⟨h1, h2, h3⟩
        have hbn : b.toNat = by8 l i := by rw [h1, UInt8.toNat_ofNat']; omega
        refine ⟨.inr ?_, fun k hk => ?_⟩
        · rcases h2 with h2 | h2
          · subst h2; simp only [List.length_cons, List.length_nil]; omega
          · simp only [List.length_cons]; omega
        · rcases k with _ | k
          · exact hbn.symm
          · rw [by8_cons', ← h3 k (by simpa using hk), show i + 1 + k = i + (k + 1) by omega]
      · rintro ⟨h2, h3⟩
        have h0 := h3 0 (by simp)
        have hbn : b.toNat = by8 l i := h0.symm
        refine ⟨by rw [← hbn]; simp, ?_, fun k hk => ?_⟩
        · rcases h2 with h2 | h2
          · cases h2
          · simp only [List.length_cons] at h2; exact .inr (by omega)
        · have := h3 (k + 1) (by simpa using hk)
          rw [by8_cons', show i + (k + 1) = i + 1 + k by omega] at this
          exact this
    · rw [List.drop_of_length_le hi]
      constructor
      · intro h; cases h
      · rintro ⟨h2, -⟩
        rcases h2 with h2 | h2
        · cases h2
        · simp only [List.length_cons] at h2; omega
theorem pre2 {l : List UInt8} {i : Nat} {x y : UInt8} (h : [x, y].isPrefixOf (l.drop i) = true) : i + 2 ≤ l.length ∧ by8 l i = x.toNat ∧ by8 l (i + 1) = y.toNat := by
  obtain ⟨h1, h2⟩ := (pre_iff l [x, y] i).1 h
  refine ⟨?_, h2 0 (by simp), h2 1 (by simp)⟩
  rcases h1 with h1 | h1
  · cases h1
  · exact h1
theorem pre2_mk {l : List UInt8} {i : Nat} {x y : UInt8} (h1 : i + 2 ≤ l.length) (h2 : by8 l i = x.toNat) (h3 : by8 l (i + 1) = y.toNat) : [x, y].isPrefixOf (l.drop i) = true := by
  refine (pre_iff l [x, y] i).2 ⟨.inr h1, fun k hk => ?_⟩
  simp only [List.length_cons, List.length_nil] at hk
  rcases (show k = 0 ∨ k = 1 by omega) with rfl | rfl
  · exact h2
  · exact h3
/-- where a remark of one line stops -/
theorem lineGo_stop (l : List UInt8) : ∀ (f i k : Nat), lineGo l f i = .ok k → l.length < i + f → k < l.length → (chr l k).2 ≠ 0 ∧ endsC (chr l k).1 = true
  | 0, i, k, h, hf, hk => by rw [lineGo] at h; cases h; omega
  | f + 1, i, k, h, hf, hk => by
    rw [lineGo] at h
    split at h
    · split at h
      · cases h
      · rename_i hn
        split at h
        · rename_i he; cases h; exact ⟨hn, he⟩
        · exact lineGo_stop l f _ k h (by omega) hk
    · cases h; omega
theorem lineGo_ag {l l' : List UInt8} : ∀ (f i j : Nat), lineGo l f i = .ok j → l.length < i + f → ∀ (i' n f' : Nat), Ag l i l' i' n → l'.length < i' + f' →
    ((j < l.length ∧ j + (chr l j).2 ≤ i + n) ∨ (j = l.length ∧ i + n = l.length ∧ by8 l' (i' + n) = 10 ∧ i' + n < l'.length)) → lineGo l' f' i' = .ok (i' + (j - i))
  | 0, i, j, h, hf, i', n, f', A, hf', hw => by have := A.h1; omega
  | f + 1, i, j, h, hf, i', n, f', A, hf', hw => by
    have a1 := A.h1
    have a2 := A.h2
    rw [lineGo] at h
    obtain ⟨g, rfl⟩ : ∃ g, f' = g + 1 := ⟨f' - 1, by omega⟩
    split at h
    · rename_i hi
      split at h
      · cases h
      · rename_i hn
        have hce := chr_end hn
        split at h
        · rename_i he
          cases h
          rcases hw with hw | hw
          · have hc := chr_ag A hn (by omega)
            rw [lineGo, if_pos (by omega), hc, if_neg hn, if_pos he, Nat.sub_self, Nat.add_zero]
          · omega
        · rename_i he
          have hle := lineGo_le l _ _ _ h hce
          have hcn : (chr l i).2 ≤ n := by omega
          have hc := chr_ag A hn hcn
          rw [lineGo, if_pos (by omega), hc, if_neg hn, if_neg he]
          have := lineGo_ag f _ j h (by omega) (i' + (chr l i).2) (n - (chr l i).2) g (A.sub hcn) (by omega) (by
            rcases hw with hw | hw
            · exact .inl ⟨hw.1, by omega⟩
            · exact .inr ⟨hw.1, by omega, by rw [show i' + (chr l i).2 + (n - (chr l i).2) = i' + n by omega]; exact hw.2.2.1, by omega⟩)
          rw [this]
          congr 1
          omega
    · cases h
      rcases hw with hw | ⟨h1, h2, h3, h4⟩
      · omega
      · have n0 : n = 0 := by omega
        subst n0
        rw [Nat.add_zero] at h3 h4
        rw [lineGo, if_pos h4, chr_asc h4 (by omega), h3, if_neg (by simp), if_pos (by decide), Nat.sub_self, Nat.add_zero]
theorem idx_eq {t b : List UInt8} {k : Nat} (ht : t ≠ []) (h1 : t <+: b.drop k) (h2 : ∀ j, j < k → ¬ t <+: b.drop j) : idx t b = some k := by
  have hs := idx_some_of b k h1 ht
  obtain ⟨k2, hk2⟩ := Option.isSome_iff_exists.1 hs
  obtain ⟨g1, -, g3⟩ := idx_lt b k2 hk2
  rcases Nat.lt_trichotomy k k2 with h | h | h
  · exact absurd h1 (g3 k h)
  · rw [hk2, h]
  · exact absurd g1 (h2 k2 h)
theorem sub_ag {l l' : List UInt8} {i i' n a b : Nat} (A : Ag l i l' i' n) (hb : b ≤ n) : Go.Proofs.YtepmneongpbglaaGreatDoor.sub l' (i' + a) (i' + b) = Go.Proofs.YtepmneongpbglaaGreatDoor.sub l (i + a) (i + b) := by
  have a1 := A.h1
  have a2 := A.h2
  refine List.ext_getElem? fun k => ?_
  unfold Go.Proofs.YtepmneongpbglaaGreatDoor.sub
  rcases Nat.lt_or_ge k (b - a) with hk | hk
  · rw [List.getElem?_take_of_lt (by omega), List.getElem?_take_of_lt (by omega), List.getElem?_drop, List.getElem?_drop]
    have e := A.eq (a + k) (by omega)
    have b1 : i' + a + k < l'.length := by omega
    have b2 : i + a + k < l.length := by omega
    rw [List.getElem?_eq_getElem b1, List.getElem?_eq_getElem b2]
    unfold by8 at e
    rw [List.getD_eq_getElem?_getD, List.getD_eq_getElem?_getD, show i' + (a + k) = i' + a + k by omega, show i + (a + k) = i + a + k by omega, List.getElem?_eq_getElem b1, List.getElem?_eq_getElem b2] at e
    exact congrArg some (UInt8.toNat_inj.1 e)
  · rw [List.getElem?_eq_none (by rw [List.length_take]; omega), List.getElem?_eq_none (by rw [List.length_take]; omega)]
/-- what is skipped is skipped in the other text too -/
theorem skipGo_ag {l : List UInt8} : ∀ (f i : Nat) (a : Bool) (j : Nat) (ln : Bool), skipGo l f i a = .ok (j, ln) → i ≤ l.length → l.length < i + f → ∃ c, ln = (a || c) ∧
    ∀ (l' : List UInt8) (i' f' : Nat) (b : Bool), Ag l i l' i' (j - i) → (j = l.length → by8 l' (i' + (j - i)) = 10 ∧ i' + (j - i) < l'.length) → l'.length < i' + f' →
      ∃ f'', l'.length < i' + (j - i) + f'' ∧ skipGo l' f' i' b = skipGo l' f'' (i' + (j - i)) (b || c)
  | 0, i, a, j, ln, h, hi, hf => by omega
  | f + 1, i, a, j, ln, h, hi, hf => by
    have hj0 := skipGo_le l _ _ _ _ _ h hi
    rw [skipGo] at h
    by_cases hil : i < l.length
    · rw [if_pos hil] at h
      by_cases hn : (chr l i).2 = 0
      · rw [if_pos hn] at h; cases h
      rw [if_neg hn] at h
      have hce := chr_end hn
      by_cases he : endsC (chr l i).1 = true
      · rw [if_pos he] at h
        have hj := skipGo_le l _ _ _ _ _ h hce
        obtain ⟨c, c1, c2⟩ := skipGo_ag f _ _ _ _ h hce (by omega)
        refine ⟨true, by rw [c1]; simp, fun l' i' f' b A hend hf' => ?_⟩
        have a2 := A.h2
        obtain ⟨g, rfl⟩ : ∃ g, f' = g + 1 := ⟨f' - 1, by omega⟩
        have hc := chr_ag A hn (by omega)
        have B := A.sub (m := (chr l i).2) (by omega)
        rw [show j - i - (chr l i).2 = j - (i + (chr l i).2) by omega] at B
        have ee : i' + (chr l i).2 + (j - (i + (chr l i).2)) = i' + (j - i) := by omega
        obtain ⟨f2, q1, q2⟩ := c2 l' (i' + (chr l i).2) g true B (by rw [ee]; exact hend) (by omega)
        rw [ee] at q1 q2
        refine ⟨f2, q1, ?_⟩
        rw [skipGo, if_pos (by omega), hc, if_neg hn, if_pos he, q2]
        simp
      rw [if_neg he] at h
      by_cases hb : blankC (chr l i).1 = true
      · rw [if_pos hb] at h
        have hj := skipGo_le l _ _ _ _ _ h hce
        obtain ⟨c, c1, c2⟩ := skipGo_ag f _ _ _ _ h hce (by omega)
        refine ⟨c, c1, fun l' i' f' b A hend hf' => ?_⟩
        have a2 := A.h2
        obtain ⟨g, rfl⟩ : ∃ g, f' = g + 1 := ⟨f' - 1, by omega⟩
        have hc := chr_ag A hn (by omega)
        have B := A.sub (m := (chr l i).2) (by omega)
        rw [show j - i - (chr l i).2 = j - (i + (chr l i).2) by omega] at B
        have ee : i' + (chr l i).2 + (j - (i + (chr l i).2)) = i' + (j - i) := by omega
        obtain ⟨f2, q1, q2⟩ := c2 l' (i' + (chr l i).2) g b B (by rw [ee]; exact hend) (by omega)
        rw [ee] at q1 q2
        refine ⟨f2, q1, ?_⟩
        rw [skipGo, if_pos (by omega), hc, if_neg hn, if_neg he, if_pos hb, q2]
      rw [if_neg hb] at h
      by_cases hp : [47, 47].isPrefixOf (l.drop i) = true
      · rw [if_pos hp] at h
        obtain ⟨p1, p2, p3⟩ := pre2 hp
        cases hk : lineGo l (l.length + 1) i with
        | error k => rw [hk] at h; cases h
        | ok k =>
          rw [hk] at h
          simp only at h
          have hkl := lineGo_le l _ _ _ hk hi
          have k2 : i + 2 ≤ k := by
            have e1 : chr l i = (by8 l i, 1) := chr_asc hil (by rw [p2]; decide)
            have e2 : chr l (i + 1) = (by8 l (i + 1), 1) := chr_asc (by omega) (by rw [p3]; decide)
            have h47 : endsC 47 = false := by decide
            rw [lineGo, if_pos hil, e1, p2] at hk
            rw [if_neg (by simp), show ((47 : UInt8).toNat) = 47 from rfl, h47, if_neg (by simp)] at hk
            obtain ⟨n, hn2⟩ : ∃ n, l.length = n + 1 := ⟨l.length - 1, by omega⟩
            rw [hn2, lineGo, if_pos (by omega), e2, p3] at hk
            rw [if_neg (by simp), show ((47 : UInt8).toNat) = 47 from rfl, h47, if_neg (by simp)] at hk
            exact (lineGo_le l _ _ _ hk (by omega)).1
          have hj := skipGo_le l _ _ _ _ _ h hkl.2
          obtain ⟨c, c1, c2⟩ := skipGo_ag f _ _ _ _ h hkl.2 (by omega)
          have hstep : k < l.length → k + (chr l k).2 ≤ j := fun hkk => by
            obtain ⟨s1, s2⟩ := lineGo_stop l _ _ _ hk (by omega) hkk
            obtain ⟨f0, rfl⟩ : ∃ f0, f = f0 + 1 := ⟨f - 1, by omega⟩
            rw [skipGo, if_pos hkk, if_neg s1, if_pos s2] at h
            exact (skipGo_le l _ _ _ _ _ h (chr_end s1)).1
          refine ⟨c, c1, fun l' i' f' b A hend hf' => ?_⟩
          have a2 := A.h2
          obtain ⟨g, rfl⟩ : ∃ g, f' = g + 1 := ⟨f' - 1, by omega⟩
          have hc := chr_ag A hn (by rw [chr_asc hil (by rw [p2]; decide)]; simp only; omega)
          have hp' : [47, 47].isPrefixOf (l'.drop i') = true := pre2_mk (by omega) (by have := A.eq 0 (by omega); rw [Nat.add_zero, Nat.add_zero] at this; rw [this]; exact p2) (by rw [A.eq 1 (by omega)]; exact p3)
          have hl := lineGo_ag (l' := l') (l.length + 1) i k hk (by omega) i' (j - i) (l'.length + 1) A (by omega) (by
            rcases Nat.lt_or_ge k l.length with hkk | hkk
            · exact .inl ⟨hkk, by have := hstep hkk; omega⟩
            · have hjl : j = l.length := by omega
              exact .inr ⟨by omega, by omega, (hend hjl).1, (hend hjl).2⟩)
          have B := A.sub (m := k - i) (by omega)
          rw [show i + (k - i) = k by omega, show j - i - (k - i) = j - k by omega] at B
          have ee : i' + (k - i) + (j - k) = i' + (j - i) := by omega
          obtain ⟨f2, q1, q2⟩ := c2 l' (i' + (k - i)) g b B (by rw [ee]; exact hend) (by omega)
          rw [ee] at q1 q2
          refine ⟨f2, q1, ?_⟩
          rw [skipGo, if_pos (by omega), hc, if_neg hn, if_neg he, if_neg hb, if_pos hp', hl]
          simp only
          rw [q2]
      rw [if_neg hp] at h
      by_cases hq : [47, 42].isPrefixOf (l.drop i) = true
      · rw [if_pos hq] at h
        obtain ⟨p1, p2, p3⟩ := pre2 hq
        cases hk : idx [42, 47] (l.drop (i + 2)) with
        | none => rw [hk] at h; cases h
        | some k =>
          rw [hk] at h
          simp only at h
          obtain ⟨x1, x2, x3⟩ := idx_lt _ _ hk
          rw [List.length_drop] at x2
          simp only [List.length_cons, List.length_nil] at x2
          cases hr : remark (Go.Proofs.YtepmneongpbglaaGreatDoor.sub l (i + 2) (i + 2 + k)) with
          | none => rw [hr] at h; cases h
          | some e =>
            rw [hr] at h
            simp only at h
            have hj := skipGo_le l _ _ _ _ _ h (by omega)
            obtain ⟨c, c1, c2⟩ := skipGo_ag f _ _ _ _ h (by omega) (by omega)
            refine ⟨e || c, by rw [c1, Bool.or_assoc], fun l' i' f' b A hend hf' => ?_⟩
            have a2 := A.h2
            obtain ⟨g, rfl⟩ : ∃ g, f' = g + 1 := ⟨f' - 1, by omega⟩
            have hc := chr_ag A hn (by rw [chr_asc hil (by rw [p2]; decide)]; simp only; omega)
            have y0 : by8 l' i' = 47 := by have := A.eq 0 (by omega); rw [Nat.add_zero, Nat.add_zero] at this; rw [this]; exact p2
            have y1 : by8 l' (i' + 1) = 42 := by rw [A.eq 1 (by omega)]; exact p3
            have hq' : [47, 42].isPrefixOf (l'.drop i') = true := pre2_mk (by omega) y0 y1
            have hp' : ¬ [47, 47].isPrefixOf (l'.drop i') = true := fun g => by
              have := (pre2 g).2.2
              rw [y1] at this
              revert this; decide
            have hx : idx [42, 47] (l'.drop (i' + 2)) = some k := by
              refine idx_eq (by simp) ?_ (fun m hm g => ?_)
              · rw [List.drop_drop, ← List.isPrefixOf_iff_prefix]
                rw [List.drop_drop, ← List.isPrefixOf_iff_prefix] at x1
                obtain ⟨w1, w2, w3⟩ := pre2 x1
                refine pre2_mk (by omega) ?_ ?_
                · have := A.eq (2 + k) (by omega)
                  rw [show i' + 2 + k = i' + (2 + k) by omega, this, show i + (2 + k) = i + 2 + k by omega]; exact w2
                · have := A.eq (2 + k + 1) (by omega)
                  rw [show i' + 2 + k + 1 = i' + (2 + k + 1) by omega, this, show i + (2 + k + 1) = i + 2 + k + 1 by omega]; exact w3
              · rw [List.drop_drop, ← List.isPrefixOf_iff_prefix] at g
                obtain ⟨w1, w2, w3⟩ := pre2 g
                refine x3 m hm ?_
                rw [List.drop_drop, ← List.isPrefixOf_iff_prefix]
                refine pre2_mk (by omega) ?_ ?_
                · have := A.eq (2 + m) (by omega)
                  rw [show i + 2 + m = i + (2 + m) by omega, ← this, show i' + (2 + m) = i' + 2 + m by omega]; exact w2
                · have := A.eq (2 + m + 1) (by omega)
                  rw [show i + 2 + m + 1 = i + (2 + m + 1) by omega, ← this, show i' + (2 + m + 1) = i' + 2 + m + 1 by omega]; exact w3
            have hsb : Go.Proofs.YtepmneongpbglaaGreatDoor.sub l' (i' + 2) (i' + 2 + k) = Go.Proofs.YtepmneongpbglaaGreatDoor.sub l (i + 2) (i + 2 + k) := by
              have := sub_ag (a := 2) (b := 2 + k) A (by omega)
              rw [show i' + (2 + k) = i' + 2 + k by omega, show i + (2 + k) = i + 2 + k by omega] at this
              exact this
            have B := A.sub (m := k + 4) (by omega)
            rw [show i + (k + 4) = i + k + 4 by omega, show i' + (k + 4) = i' + k + 4 by omega, show j - i - (k + 4) = j - (i + k + 4) by omega] at B
            have ee : i' + k + 4 + (j - (i + k + 4)) = i' + (j - i) := by omega
            obtain ⟨f2, q1, q2⟩ := c2 l' (i' + k + 4) g (b || e) B (by rw [ee]; exact hend) (by omega)
            rw [ee] at q1 q2
            refine ⟨f2, q1, ?_⟩
            rw [skipGo, if_pos (by omega), hc, if_neg hn, if_neg he, if_neg hb, if_neg hp', if_pos hq', hx]
            simp only
            rw [hsb, hr]
            simp only
            rw [q2, Bool.or_assoc]
      · rw [if_neg hq] at h
        cases h
        exact ⟨false, by simp, fun l' i' f' b A hend hf' => ⟨f', by rw [Nat.sub_self]; omega, by rw [Nat.sub_self, Nat.add_zero, Bool.or_false]⟩⟩
    · rw [if_neg hil] at h
      cases h
      exact ⟨false, by simp, fun l' i' f' b A hend hf' => ⟨f', by rw [Nat.sub_self]; omega, by rw [Nat.sub_self, Nat.add_zero, Bool.or_false]⟩⟩
end Lx
end Go.Proofs.YtepmneongpbglaaGreatDoor
namespace Go.Proofs.YtepmneongpbglaaGreatDoor
open Go Go.RowKit
set_option linter.all false
namespace Lx
theorem by8_past (l : List UInt8) {i : Nat} (h : l.length ≤ i) : by8 l i = 0 := by
  unfold by8; rw [List.getD_eq_getElem?_getD, List.getElem?_eq_none h]; rfl
theorem drop_by8' {l : List UInt8} {i : Nat} (hi : i < l.length) : l.drop i = UInt8.ofNat (by8 l i) :: l.drop (i + 1) := by
  rw [List.drop_eq_getElem_cons hi]
  congr 1
  simp [by8, List.getD_eq_getElem?_getD, List.getElem?_eq_getElem hi]
theorem run_step7 {p : Nat → Bool} {l : List UInt8} {i : Nat} (hi : i < l.length) (h : p (by8 l i) = true) : run p l i = run p l (i + 1) := by
  have hb := by8_lt l i
  unfold run
  rw [drop_by8' hi, runGo, if_pos (by rw [UInt8.toNat_ofNat', Nat.mod_eq_of_lt (by omega)]; exact h)]
  omega
/-- what a run goes over, and what stands behind it -/
theorem run_says {p : Nat → Bool} (h0 : p 0 = false) (l : List UInt8) : ∀ m i, l.length - i = m → (∀ x, i ≤ x → x < run p l i → p (by8 l x) = true) ∧ p (by8 l (run p l i)) = false
  | 0, i, hm => by
    have e : run p l i = i := run_no (by rw [by8_past l (by omega)]; exact h0) h0
    rw [e]
    exact ⟨fun x h1 h2 => by omega, by rw [by8_past l (by omega)]; exact h0⟩
  | m + 1, i, hm => by
    cases hp : p (by8 l i) with
    | false =>
      rw [run_no hp h0]
      exact ⟨fun x h1 h2 => by omega, hp⟩
    | true =>
      rw [run_step7 (by omega) hp]
      obtain ⟨a, b⟩ := run_says h0 l m (i + 1) (by omega)
      exact ⟨fun x h1 h2 => by
        rcases (show x = i ∨ i + 1 ≤ x by omega) with e | e
        · rw [e]; exact hp
        · exact a x e h2, b⟩
theorem run_eq {p : Nat → Bool} (h0 : p 0 = false) (l : List UInt8) : ∀ m i k, k - i = m → i ≤ k → (∀ x, i ≤ x → x < k → p (by8 l x) = true) → p (by8 l k) = false → run p l i = k
  | 0, i, k, hm, hk, _, h2 => by
    have : i = k := by omega
    subst this
    exact run_no h2 h0
  | m + 1, i, k, hm, hk, h1, h2 => by
    have hi : i < l.length := by
      rcases Nat.lt_or_ge i l.length with g | g
      · exact g
      · have := h1 i (Nat.le_refl _) (by omega)
        rw [by8_past l g, h0] at this; cases this
    rw [run_step7 hi (h1 i (Nat.le_refl _) (by omega))]
    exact run_eq h0 l m (i + 1) k (by omega) (by omega) (fun x g1 g2 => h1 x (by omega) g2) h2
/-- the other text agrees, and behind stands a blank -/
structure Bl (l : List UInt8) (i : Nat) (l' : List UInt8) (i' n : Nat) : Prop where
  ag : Ag l i l' i' n
  bl : by8 l' (i' + n) = 32 ∨ by8 l' (i' + n) = 10
  lt : i' + n < l'.length
section
variable {l l' : List UInt8} {i i' n : Nat}
theorem Bl.sub (h : Bl l i l' i' n) {m : Nat} (hm : m ≤ n) : Bl l (i + m) l' (i' + m) (n - m) :=
  ⟨h.ag.sub hm, by rw [show i' + m + (n - m) = i' + n by omega]; exact h.bl, by have := h.lt; omega⟩
theorem Bl.at (h : Bl l i l' i' n) {k : Nat} (hk : k < n) : by8 l' (i' + k) = by8 l (i + k) := h.ag.eq k hk
/-- a byte that is a test's no in the first text is its no in the other -/
theorem Bl.no (h : Bl l i l' i' n) {k : Nat} (hk : k ≤ n) {p : Nat → Bool} (hp : p (by8 l (i + k)) = false) (h32 : p 32 = false) (h10 : p 10 = false) : p (by8 l' (i' + k)) = false := by
  rcases (show k < n ∨ k = n by omega) with e | e
  · rw [h.at e]; exact hp
  · rw [e]
    rcases h.bl with g | g <;> rw [g]
    · exact h32
    · exact h10
theorem Bl.run (h : Bl l i l' i' n) {p : Nat → Bool} (h0 : p 0 = false) (h32 : p 32 = false) (h10 : p 10 = false) {a : Nat} (ha : i ≤ a) (hk : run p l a ≤ i + n) : Lx.run p l' (i' + (a - i)) = i' + (Lx.run p l a - i) := by
  have hle := (run_le p l a).1
  obtain ⟨r1, r2⟩ := run_says h0 l _ a rfl
  refine run_eq h0 l' _ _ _ rfl (by omega) (fun x x1 x2 => ?_) ?_
  · have := h.at (k := x - i') (by omega)
    rw [show i' + (x - i') = x by omega] at this
    rw [this]
    exact r1 _ (by omega) (by omega)
  · refine h.no (by omega) ?_ h32 h10
    rw [show i + (Lx.run p l a - i) = Lx.run p l a by omega]
    exact r2
theorem digit0 : digit 0 = false ∧ digit 32 = false ∧ digit 10 = false := by decide
theorem sixteen0 : sixteen 0 = false ∧ sixteen 32 = false ∧ sixteen 10 = false := by decide
theorem numeral_ag {e : Nat} (h : Bl l i l' i' n) (hn : numeral l i = some e) (he : e ≤ i + n) : numeral l' i' = some (i' + (e - i)) := by
  unfold numeral at hn ⊢
  obtain ⟨e0, h1, h2⟩ := Option.bind_eq_some_iff.1 hn
  split at h2
  · cases h2
  rename_i hld
  cases h2
  have a2 := h.ag.h2
  -- the end itself
  have key : numEnd l' i' = some (i' + (e - i)) := by
    unfold numEnd at h1 ⊢
    by_cases hx : by8 l i = 48 ∧ i + 1 < l.length ∧ (by8 l (i + 1) = 120 ∨ by8 l (i + 1) = 88)
    · rw [if_pos hx] at h1
      split at h1
      · cases h1
      · rename_i hne
        cases h1
        have r := (run_le sixteen l (i + 2)).1
        have x0 := h.at (k := 0) (by omega)
        have x1 := h.at (k := 1) (by omega)
        rw [Nat.add_zero, Nat.add_zero] at x0
        rw [if_pos ⟨by rw [x0]; exact hx.1, by omega, by rw [x1]; exact hx.2.2⟩]
        have hr := h.run sixteen0.1 sixteen0.2.1 sixteen0.2.2 (a := i + 2) (by omega) he
        rw [show i' + (i + 2 - i) = i' + 2 by omega] at hr
        rw [hr, if_neg (by omega)]
    · rw [if_neg hx] at h1
      have hx' : ¬ (by8 l' i' = 48 ∧ i' + 1 < l'.length ∧ (by8 l' (i' + 1) = 120 ∨ by8 l' (i' + 1) = 88)) := by
        intro ⟨g1, g2, g3⟩
        rcases (show n = 0 ∨ n = 1 ∨ 1 < n by omega) with z | z | z
        · have := h.bl; rw [z, Nat.add_zero] at this; omega
        · have := h.bl; rw [z] at this; omega
        · have x0 := h.at (k := 0) (by omega)
          have x1 := h.at (k := 1) z
          have := h.ag.h1
          rw [Nat.add_zero, Nat.add_zero] at x0
          exact hx ⟨by rw [← x0]; exact g1, by omega, by rw [← x1]; exact g3⟩
      rw [if_neg hx']
      by_cases hz : 1 < run digit l i - i ∧ by8 l i = 48
      · rw [if_pos hz] at h1; cases h1
      rw [if_neg hz] at h1
      obtain ⟨A, hA⟩ : ∃ A, run digit l i = A := ⟨_, rfl⟩
      rw [hA] at h1 hz
      have rA := (run_le digit l i).1
      rw [hA] at rA
      -- where the mantissa ends
      obtain ⟨B, hB⟩ : ∃ B, ptd l A = B := ⟨_, rfl⟩
      rw [hB] at h1
      have hB2 : B = if by8 l A = 46 then run digit l (A + 1) else A := by rw [← hB]; rfl
      have hBe : B ≤ e := by
        split at h1
        · split at h1
          · cases h1
          · cases h1
            have g1 := (run_le digit l (sgn l (B + 1))).1
            have g2 : B + 1 ≤ sgn l (B + 1) := by unfold sgn; split <;> omega
            omega
        · cases h1; omega
      have hAB : A ≤ B := by
        rw [hB2]; split
        · have := (run_le digit l (A + 1)).1; omega
        · omega
      have hrA : run digit l' i' = i' + (A - i) := by
        have := h.run digit0.1 digit0.2.1 digit0.2.2 (a := i) (Nat.le_refl _) (by rw [hA]; omega)
        rw [Nat.sub_self, Nat.add_zero, hA] at this
        exact this
      have hz' : ¬ (1 < i' + (A - i) - i' ∧ by8 l' i' = 48) := by
        intro ⟨g1, g2⟩
        have x0 := h.at (k := 0) (by omega)
        rw [Nat.add_zero, Nat.add_zero] at x0
        exact hz ⟨by omega, by rw [← x0]; exact g2⟩
      have hpt : ptd l' (i' + (A - i)) = i' + (B - i) := by
        unfold ptd
        by_cases h46 : by8 l A = 46
        · have hAB2 : A + 1 ≤ B := by rw [hB2, if_pos h46]; exact (run_le digit l (A + 1)).1
          have x := h.at (k := A - i) (by omega)
          rw [show i + (A - i) = A by omega] at x
          rw [x, if_pos h46]
          have hBr : B = run digit l (A + 1) := by rw [hB2, if_pos h46]
          have := h.run digit0.1 digit0.2.1 digit0.2.2 (a := A + 1) (by omega) (by rw [← hBr]; omega)
          rw [show i' + (A - i) + 1 = i' + (A + 1 - i) by omega, this, ← hBr]
        · have hBA : B = A := by rw [hB2, if_neg h46]
          have x := h.no (k := A - i) (by omega) (p := fun c => c == 46) (by rw [show i + (A - i) = A by omega]; simpa using h46) (by decide) (by decide)
          rw [if_neg (by simpa using x), hBA]
      rw [hrA, if_neg hz', hpt]
      by_cases hex : by8 l B = 101 ∨ by8 l B = 69
      · rw [if_pos hex] at h1
        split at h1
        · cases h1
        · rename_i hne
          cases h1
          have g2 : B + 1 ≤ sgn l (B + 1) := by unfold sgn; split <;> omega
          have g1 := (run_le digit l (sgn l (B + 1))).1
          have x := h.at (k := B - i) (by omega)
          rw [show i + (B - i) = B by omega] at x
          have y := h.at (k := B + 1 - i) (by omega)
          rw [show i + (B + 1 - i) = B + 1 by omega, show i' + (B + 1 - i) = i' + (B - i) + 1 by omega] at y
          have hsg : sgn l' (i' + (B - i) + 1) = i' + (sgn l (B + 1) - i) := by
            unfold sgn
            rw [y]
            split <;> omega
          have hr := h.run digit0.1 digit0.2.1 digit0.2.2 (a := sgn l (B + 1)) (by omega) he
          rw [x, if_pos hex, hsg, hr, if_neg (by omega)]
      · rw [if_neg hex] at h1
        have hBe2 : B = e := Option.some.inj h1
        subst hBe2
        have x := h.no (k := B - i) (by omega) (p := fun c => c == 101 || c == 69) (by rw [show i + (B - i) = B by omega]; simpa using hex) (by decide) (by decide)
        rw [if_neg (by simpa using x)]
  rw [key, Option.bind_some]
  have hie : i ≤ e := by
    have r1 := (run_le digit l i).1
    unfold numEnd at h1
    split at h1
    · split at h1
      · cases h1
      · cases h1; have := (run_le sixteen l (i + 2)).1; omega
    · split at h1
      · cases h1
      · have hp : run digit l i ≤ ptd l (run digit l i) := by
          unfold ptd; split
          · have := (run_le digit l (run digit l i + 1)).1; omega
          · omega
        split at h1
        · split at h1
          · cases h1
          · cases h1
            have g1 := (run_le digit l (sgn l (ptd l (run digit l i) + 1))).1
            have g2 : ptd l (run digit l i) + 1 ≤ sgn l (ptd l (run digit l i) + 1) := by unfold sgn; split <;> omega
            omega
        · cases h1; omega
  have x := h.no (k := e - i) (by omega) (p := fun c => letter c || digit c) (by rw [show i + (e - i) = e by omega]; simpa using hld) (by decide) (by decide)
  have x' : (letter (by8 l' (i' + (e - i))) || digit (by8 l' (i' + (e - i)))) = false := x
  rw [x']
  rfl
theorem hexGo_ag (A : Ag l i l' i' n) : ∀ (m a u v b : Nat), hexGo l m a u = some (v, b) → i ≤ a → b ≤ i + n → hexGo l' m (i' + (a - i)) u = some (v, i' + (b - i)) ∧ a ≤ b
  | 0, a, u, v, b, h, ha, hb => by
    rw [hexGo] at h ⊢
    cases h
    exact ⟨rfl, Nat.le_refl _⟩
  | m + 1, a, u, v, b, h, ha, hb => by
    rw [hexGo] at h ⊢
    split at h
    · rename_i hs
      have hab : a + 1 ≤ b := by
        have : ∀ (m a u v b : Nat), hexGo l m a u = some (v, b) → a ≤ b := by
          intro m
          induction m with
          | zero => intro a u v b h; rw [hexGo] at h; cases h; exact Nat.le_refl _
          | succ m ih => intro a u v b h; rw [hexGo] at h; split at h
                         · have := ih _ _ _ _ h; omega
                         · cases h
        exact this _ _ _ _ _ h
      have x := A.eq (a - i) (by omega)
      rw [show i + (a - i) = a by omega] at x
      rw [x, if_pos hs]
      have := hexGo_ag A m (a + 1) _ v b h (by omega) hb
      rw [show i' + (a - i) + 1 = i' + (a + 1 - i) by omega]
      exact ⟨this.1, by omega⟩
    · cases h
theorem escape_ag (A : Ag l i l' i' n) {a b : Nat} {t : List UInt8} (h : escape l a = some (t, b)) (ha : i ≤ a) (hb : b + 1 ≤ i + n) : escape l' (i' + (a - i)) = some (t, i' + (b - i)) := by
  have hle := escape_le h
  have B := A.sub (m := a - i) (by omega)
  rw [show i + (a - i) = a by omega] at B
  unfold escape at h ⊢
  simp only at h ⊢
  by_cases hn : (chr l a).2 = 0
  · rw [if_pos hn] at h; cases h
  rw [if_neg hn] at h
  -- the character lies within
  have hab : a + (chr l a).2 ≤ b := by
    have hx : ∀ (m a u v b : Nat), hexGo l m a u = some (v, b) → a ≤ b := by
      intro m
      induction m with
      | zero => intro a u v b h; rw [hexGo] at h; cases h; exact Nat.le_refl _
      | succ m ih => intro a u v b h; rw [hexGo] at h; split at h
                     · have := ih _ _ _ _ h; omega
                     · cases h
    split at h
    · cases h; omega
    · split at h
      · obtain ⟨x, x1, x2⟩ := Option.map_eq_some_iff.1 h
        cases x2
        have := hx _ _ _ _ _ x1; omega
      · split at h
        · obtain ⟨x, x1, x2⟩ := Option.map_eq_some_iff.1 h
          cases x2
          have := hx _ _ _ _ _ x1; omega
        · split at h
          · split at h <;> cases h; omega
          · split at h
            · cases h
            · split at h
              · cases h; omega
              · split at h
                · cases h; omega
                · cases h; omega
  have hc := chr_ag B hn (by omega)
  rw [hc, if_neg hn]
  have e1 : i' + (a - i) + (chr l a).2 = i' + (a + (chr l a).2 - i) := by omega
  rw [e1]
  have hb8 : by8 l' (i' + (a + (chr l a).2 - i)) = by8 l (a + (chr l a).2) := by
    have := A.eq (a + (chr l a).2 - i) (by omega)
    rw [show i + (a + (chr l a).2 - i) = a + (chr l a).2 by omega] at this
    exact this
  rw [hb8]
  split at h
  · rename_i v hv
    cases h
    rfl
  · rename_i hv
    split at h
    · rename_i g; rw [if_pos g]
      obtain ⟨x, x1, x2⟩ := Option.map_eq_some_iff.1 h
      cases x2
      rw [(hexGo_ag A _ _ _ _ _ x1 (by omega) (by omega)).1]
      rfl
    · rename_i g; rw [if_neg g]
      split at h
      · rename_i g; rw [if_pos g]
        obtain ⟨x, x1, x2⟩ := Option.map_eq_some_iff.1 h
        cases x2
        rw [(hexGo_ag A _ _ _ _ _ x1 (by omega) (by omega)).1]
        rfl
      · rename_i g; rw [if_neg g]
        split at h
        · rename_i g; rw [if_pos g]
          split at h
          · cases h
          · rename_i g2; cases h; rw [if_neg g2]
        · rename_i g; rw [if_neg g]
          split at h
          · cases h
          · rename_i g; rw [if_neg g]
            split at h
            · rename_i g; cases h; rw [if_pos g]
              congr 2
              omega
            · rename_i g; rw [if_neg g]
              split at h
              · rename_i g; cases h; rw [if_pos g]
              · rename_i g; cases h; rw [if_neg g]
theorem quoteGo_ag (A : Ag l i l' i' n) (q : Nat) : ∀ (f a b : Nat) (t : List UInt8), quoteGo l q f a = some (t, b) → i ≤ a → b ≤ i + n → ∀ f', l'.length < i' + (a - i) + f' → quoteGo l' q f' (i' + (a - i)) = some (t, i' + (b - i))
  | 0, a, b, t, h, ha, hb, f', hf' => by rw [quoteGo] at h; cases h
  | f + 1, a, b, t, h, ha, hb, f', hf' => by
    have hle := quoteGo_le l q _ _ _ _ h
    rw [quoteGo] at h
    split at h
    · cases h
    rename_i hn
    have hn0 : (chr l a).2 ≠ 0 := fun e => hn (.inl e)
    have B := A.sub (m := a - i) (by omega)
    rw [show i + (a - i) = a by omega] at B
    have a2 := A.h2
    obtain ⟨g, rfl⟩ : ∃ g, f' = g + 1 := by
      refine ⟨f' - 1, ?_⟩
      rcases Nat.eq_zero_or_pos f' with z | z
      · have := A.h2; omega
      · omega
    have hin : a + (chr l a).2 ≤ b := by
      split at h
      · cases h; exact Nat.le_refl _
      · split at h
        · obtain ⟨x, x1, x2⟩ := Option.bind_eq_some_iff.1 h
          obtain ⟨y, y1, y2⟩ := Option.map_eq_some_iff.1 x2
          cases y2
          have g1 := escape_le (t := x.1) (j := x.2) x1
          have g2 := quoteGo_le l q _ _ _ _ y1
          omega
        · obtain ⟨y, y1, y2⟩ := Option.map_eq_some_iff.1 h
          cases y2
          exact (quoteGo_le l q _ _ _ _ y1).1
    have hc := chr_ag B hn0 (by omega)
    rw [quoteGo, hc, if_neg hn]
    have e1 : i' + (a - i) + (chr l a).2 = i' + (a + (chr l a).2 - i) := by omega
    rw [e1]
    split at h
    · rename_i g1; cases h; rw [if_pos g1]
    · rename_i g1; rw [if_neg g1]
      split at h
      · rename_i g2; rw [if_pos g2]
        obtain ⟨x, x1, x2⟩ := Option.bind_eq_some_iff.1 h
        obtain ⟨y, y1, y2⟩ := Option.map_eq_some_iff.1 x2
        obtain ⟨xt, xb⟩ := x
        obtain ⟨yt, yb⟩ := y
        simp only at y1 y2
        cases y2
        have g4 := quoteGo_le l q _ _ _ _ y1
        have g5 := escape_le x1
        -- the closing mark stands behind the escape
        have g6 : xb + 1 ≤ b := by
          cases f with
          | zero => rw [quoteGo] at y1; cases y1
          | succ f =>
            rw [quoteGo] at y1
            split at y1
            · cases y1
            · rename_i hm
              have hm0 : (chr l xb).2 ≠ 0 := fun e => hm (.inl e)
              have hin2 : xb + (chr l xb).2 ≤ b := by
                split at y1
                · cases y1; exact Nat.le_refl _
                · split at y1
                  · obtain ⟨u, u1, u2⟩ := Option.bind_eq_some_iff.1 y1
                    obtain ⟨v, v1, v2⟩ := Option.map_eq_some_iff.1 u2
                    cases v2
                    have z1 := escape_le (t := u.1) (j := u.2) u1
                    have z2 := quoteGo_le l q _ _ _ _ v1
                    omega
                  · obtain ⟨v, v1, v2⟩ := Option.map_eq_some_iff.1 y1
                    cases v2
                    exact (quoteGo_le l q _ _ _ _ v1).1
              omega
        rw [escape_ag A x1 (by omega) (by omega), Option.bind_some]
        simp only
        rw [quoteGo_ag A q f xb b yt y1 (by omega) hb g (by omega)]
        rfl
      · rename_i g2; rw [if_neg g2]
        obtain ⟨y, y1, y2⟩ := Option.map_eq_some_iff.1 h
        obtain ⟨yt, yb⟩ := y
        simp only at y2
        cases y2
        rw [quoteGo_ag A q f _ b yt y1 (by omega) hb g (by omega)]
        rfl
end
end Lx
end Go.Proofs.YtepmneongpbglaaGreatDoor
namespace Go.Proofs.YtepmneongpbglaaGreatDoor
open Go Go.RowKit
set_option linter.all false
namespace Lx
theorem skipGo_stop (l : List UInt8) : ∀ (f i : Nat) (a : Bool) (j : Nat) (ln : Bool), skipGo l f i a = .ok (j, ln) → i ≤ l.length → l.length < i + f → j < l.length →
    (chr l j).2 ≠ 0 ∧ endsC (chr l j).1 = false ∧ blankC (chr l j).1 = false ∧ [47, 47].isPrefixOf (l.drop j) = false ∧ [47, 42].isPrefixOf (l.drop j) = false
  | 0, i, a, j, ln, h, hi, hf, hj => by omega
  | f + 1, i, a, j, ln, h, hi, hf, hj => by
    rw [skipGo] at h
    split at h
    · rename_i hil
      split at h
      · cases h
      · rename_i hn
        have hce := chr_end hn
        split at h
        · exact skipGo_stop l f _ _ _ _ h hce (by omega) hj
        · rename_i he
          split at h
          · exact skipGo_stop l f _ _ _ _ h hce (by omega) hj
          · rename_i hb
            split at h
            · split at h
              · cases h
              · rename_i k hk
                have hkl := lineGo_le l _ _ _ hk hi
                have hik : i < k := by
                  rw [lineGo, if_pos hil, if_neg hn, if_neg he] at hk
                  have := (lineGo_le l _ _ _ hk hce).1
                  omega
                exact skipGo_stop l f _ _ _ _ h hkl.2 (by omega) hj
            · rename_i hp
              split at h
              · split at h
                · cases h
                · rename_i k hk
                  have x2 := (idx_lt _ _ hk).2.1
                  rw [List.length_drop] at x2
                  simp only [List.length_cons, List.length_nil] at x2
                  split at h
                  · cases h
                  · exact skipGo_stop l f _ _ _ _ h (by omega) (by omega) hj
              · rename_i hq
                cases h
                exact ⟨hn, by simpa using he, by simpa using hb, (Bool.not_eq_true _).mp hp, (Bool.not_eq_true _).mp hq⟩
    · cases h; omega
theorem marks_by : ∀ m ∈ marks, ∀ k, k < m.length → by8 m k ≠ 32 ∧ by8 m k ≠ 10 ∧ by8 m k < 128 := by decide
/-- how a lexeme begins -/
theorem one_asc {C : List UInt8 → Bool} {l : List UInt8} {j k : Nat} {ln : Bool} {x : Lx} (h : one C l j ln = .ok (x, k)) : by8 l j < 128 := by
  unfold one at h
  split at h
  · rename_i q
    simp only [letter, decide_eq_true_eq] at q; omega
  · split at h
    · rename_i q
      simp only [Bool.or_eq_true, Bool.and_eq_true, beq_iff_eq, digit, decide_eq_true_eq] at q; omega
    · split at h
      · omega
      · split at h
        · cases h
        · rename_i m hm
          have hmem := List.mem_of_find?_eq_some hm
          have hp : m.isPrefixOf (l.drop j) = true := (List.find?_eq_some_iff_append.1 hm).1
          obtain ⟨-, g2⟩ := (pre_iff l m j).1 hp
          have hne := marks_ne m hmem
          have hpos : 0 < m.length := List.length_pos_iff.2 hne
          have := g2 0 hpos
          rw [Nat.add_zero] at this
          rw [this]
          exact (marks_by m hmem 0 hpos).2.2
theorem numeral_pt {l : List UInt8} {j k : Nat} (h46 : by8 l j = 46) (hd : digit (by8 l (j + 1)) = true) (h : numeral l j = some k) : j + 2 ≤ k := by
  have hlt : j + 1 < l.length := by
    rcases Nat.lt_or_ge (j + 1) l.length with g | g
    · exact g
    · rw [by8_past l g] at hd; exact absurd hd (by decide)
  unfold numeral at h
  obtain ⟨e, h1, h2⟩ := Option.bind_eq_some_iff.1 h
  split at h2
  · cases h2
  cases h2
  have hA : run digit l j = j := run_no (by rw [h46]; decide) (by decide)
  have hB : j + 2 ≤ ptd l j := by
    unfold ptd; rw [if_pos h46]
    have := run_pos (p := digit) hlt hd; omega
  unfold numEnd at h1
  rw [hA] at h1
  split at h1
  · omega
  · split at h1
    · cases h1
    · split at h1
      · split at h1
        · cases h1
        · cases h1
          have g1 := (run_le digit l (sgn l (ptd l j + 1))).1
          have g2 : ptd l j + 1 ≤ sgn l (ptd l j + 1) := by unfold sgn; split <;> omega
          omega
      · cases h1; omega
theorem sub_bl {l l' : List UInt8} {j p n e : Nat} (A : Ag l j l' p n) (he : j ≤ e) (hn : e ≤ j + n) : Go.Proofs.YtepmneongpbglaaGreatDoor.sub l' p (p + (e - j)) = Go.Proofs.YtepmneongpbglaaGreatDoor.sub l j e := by
  have := sub_ag (a := 0) (b := e - j) A (by omega)
  rw [Nat.add_zero, Nat.add_zero, show j + (e - j) = e by omega] at this
  exact this
/-- a lexeme is the same where a blank follows -/
theorem one_ag {C : List UInt8 → Bool} {l l' : List UInt8} {j k p n : Nat} {ln ln' : Bool} {x : Lx} (h : one C l j ln = .ok (x, k)) (hj : j < l.length) (B : Bl l j l' p n) (hk : k ≤ j + n) :
    one C l' p ln' = .ok (⟨x.kind, x.text, x.num, p, ln'⟩, p + (k - j)) := by
  have hok := one_ok h hj
  have n1 : 1 ≤ n := by omega
  have hlt := B.lt
  have e0 := B.at (k := 0) (by omega)
  rw [Nat.add_zero, Nat.add_zero] at e0
  unfold one at h ⊢
  rw [e0]
  by_cases c1 : letter (by8 l j) = true
  · rw [if_pos c1] at h ⊢
    simp only at h ⊢
    cases h
    have hr := B.run (p := fun b => letter b || digit b) (by decide) (by decide) (by decide) (a := j) (Nat.le_refl _) hk
    rw [Nat.sub_self, Nat.add_zero] at hr
    rw [hr, sub_bl B.ag (run_le _ l j).1 hk]
  rw [if_neg c1] at h ⊢
  by_cases c2 : (digit (by8 l j) || (by8 l j == 46 && digit (by8 l (j + 1)))) = true
  · rw [if_pos c2] at h
    cases hn : numeral l j with
    | none => rw [hn] at h; cases h
    | some e =>
      rw [hn] at h
      simp only at h
      by_cases hC : C (Go.Proofs.YtepmneongpbglaaGreatDoor.sub l j e) = true
      · rw [if_pos hC] at h
        cases h
        have c2' : (digit (by8 l j) || (by8 l j == 46 && digit (by8 l' (p + 1)))) = true := by
          rw [Bool.or_eq_true, Bool.and_eq_true, beq_iff_eq] at c2 ⊢
          rcases c2 with c | ⟨c, d⟩
          · exact .inl c
          · have := numeral_pt c d hn
            refine .inr ⟨c, ?_⟩
            rw [B.at (k := 1) (by omega)]; exact d
        rw [if_pos c2', numeral_ag B hn hk]
        simp only
        rw [sub_bl B.ag (by omega) hk, if_pos hC]
      · rw [if_neg hC] at h; cases h
  rw [if_neg c2] at h
  have c2' : ¬ (digit (by8 l j) || (by8 l j == 46 && digit (by8 l' (p + 1)))) = true := by
    intro g
    rw [Bool.or_eq_true, Bool.and_eq_true, beq_iff_eq] at g
    apply c2
    rw [Bool.or_eq_true, Bool.and_eq_true, beq_iff_eq]
    rcases g with g | ⟨g1, g2⟩
    · exact .inl g
    · refine .inr ⟨g1, ?_⟩
      cases hd : digit (by8 l (j + 1)) with
      | true => rfl
      | false =>
        have := B.no (k := 1) n1 (p := digit) hd digit0.2.1 digit0.2.2
        rw [this] at g2; cases g2
  rw [if_neg c2']
  by_cases c3 : by8 l j = 34 ∨ by8 l j = 39
  · rw [if_pos c3] at h ⊢
    cases hq : quoteGo l (by8 l j) (l.length + 1) (j + 1) with
    | none => rw [hq] at h; cases h
    | some te =>
      obtain ⟨t, e⟩ := te
      rw [hq] at h
      simp only at h
      cases h
      have := quoteGo_ag B.ag (by8 l j) (l.length + 1) (j + 1) k t hq (by omega) hk (l'.length + 1) (by omega)
      rw [show p + (j + 1 - j) = p + 1 by omega] at this
      rw [this]
  rw [if_neg c3] at h ⊢
  cases hm : marks.find? (fun m => m.isPrefixOf (l.drop j)) with
  | none => rw [hm] at h; cases h
  | some m =>
    rw [hm] at h
    simp only at h
    cases h
    obtain ⟨m1, as, bs, m2, m3⟩ := List.find?_eq_some_iff_append.1 hm
    have hmem := List.mem_of_find?_eq_some hm
    obtain ⟨q1, q2⟩ := (pre_iff l m j).1 m1
    have hfind : marks.find? (fun m => m.isPrefixOf (l'.drop p)) = some m := by
      refine List.find?_eq_some_iff_append.2 ⟨?_, as, bs, m2, fun a ha => ?_⟩
      · refine (pre_iff l' m p).2 ⟨.inr (by omega), fun i hi => ?_⟩
        rw [B.at (k := i) (by omega)]
        exact q2 i hi
      · have hna := m3 a ha
        rw [Bool.not_eq_true'] at hna ⊢
        cases hpa : a.isPrefixOf (l'.drop p) with
        | false => rfl
        | true =>
          exfalso
          obtain ⟨r1, r2⟩ := (pre_iff l' a p).1 hpa
          have hamem : a ∈ marks := by rw [m2]; exact List.mem_append_left _ ha
          have hle : a.length ≤ n := by
            rcases Nat.lt_or_ge n a.length with g | g
            · have w := r2 n g
              have mb := marks_by a hamem n g
              have := B.bl
              omega
            · exact g
          have : a.isPrefixOf (l.drop j) = true := (pre_iff l a j).2 ⟨.inr (by have := B.ag.h1; omega), fun i hi => by rw [← B.at (k := i) (by omega)]; exact r2 i hi⟩
          rw [this] at hna; cases hna
    rw [hfind]
    simp only
    rw [show j + m.length - j = m.length by omega]
def pad : List UInt8 := [32, 47, 42, 32, 97, 32, 42, 32, 98, 32, 42, 47, 32, 47, 47, 32, 99, 13, 10, 9, 226, 128, 168, 32, 47, 42, 32, 10, 32, 42, 47]
def tail : List UInt8 := [10, 47, 47, 32, 101, 110, 100]
/-- the text from a place on, its lexemes spread out -/
def spr (l : List UInt8) : Nat → List Lx → List UInt8
  | i, [] => Go.Proofs.YtepmneongpbglaaGreatDoor.sub l i l.length ++ tail
  | i, x :: r => Go.Proofs.YtepmneongpbglaaGreatDoor.sub l i x.at_ ++ (pad ++ spr l x.at_ r)
theorem sub_len' (l : List UInt8) {i e : Nat} (h1 : i ≤ e) (h2 : e ≤ l.length) : (Go.Proofs.YtepmneongpbglaaGreatDoor.sub l i e).length = e - i := by
  unfold Go.Proofs.YtepmneongpbglaaGreatDoor.sub; rw [List.length_take, List.length_drop]; omega
theorem sub_by8' (l : List UInt8) {i e k : Nat} (h : i + k < e) : by8 (Go.Proofs.YtepmneongpbglaaGreatDoor.sub l i e) k = by8 l (i + k) := by
  unfold Go.Proofs.YtepmneongpbglaaGreatDoor.sub by8
  rw [List.getD_eq_getElem?_getD, List.getD_eq_getElem?_getD, List.getElem?_take_of_lt (by omega), List.getElem?_drop]
theorem by8_drop' (l : List UInt8) (a k : Nat) : by8 (l.drop a) k = by8 l (a + k) := by
  unfold by8; rw [List.getD_eq_getElem?_getD, List.getD_eq_getElem?_getD, List.getElem?_drop]
theorem by8_left' (a b : List UInt8) {k : Nat} (h : k < a.length) : by8 (a ++ b) k = by8 a k := by
  unfold by8; rw [List.getD_eq_getElem?_getD, List.getD_eq_getElem?_getD, List.getElem?_append_left h]
theorem by8_right' (a b : List UInt8) (k : Nat) : by8 (a ++ b) (a.length + k) = by8 b k := by
  unfold by8; rw [List.getD_eq_getElem?_getD, List.getD_eq_getElem?_getD, List.getElem?_append_right (by omega), Nat.add_sub_cancel_left]
/-- where a part of the first text stands in the other -/
theorem ag_of {l l' X : List UInt8} {i i' e : Nat} (hd : l'.drop i' = Go.Proofs.YtepmneongpbglaaGreatDoor.sub l i e ++ X) (h1 : i ≤ e) (h2 : e ≤ l.length) (hi' : i' ≤ l'.length) : Ag l i l' i' (e - i) ∧ l'.drop (i' + (e - i)) = X ∧ i' + (e - i) + X.length = l'.length := by
  have hl := sub_len' l h1 h2
  have hlen := congrArg List.length hd
  rw [List.length_drop, List.length_append, hl] at hlen
  refine ⟨⟨by omega, by omega, fun k hk => ?_⟩, ?_, by omega⟩
  · rw [← by8_drop', hd, by8_left' _ _ (by rw [hl]; exact hk), sub_by8' l (by omega)]
  · rw [← List.drop_drop, hd, List.drop_append_of_le_length (by rw [hl]; exact Nat.le_refl _), List.drop_of_length_le (by rw [hl]; exact Nat.le_refl _)]
    rfl
theorem lineGo_asc (l : List UInt8) : ∀ (f i : Nat), l.length < i + f → i ≤ l.length → (∀ k, i ≤ k → k < l.length → 14 ≤ by8 l k ∧ by8 l k < 128) → lineGo l f i = .ok l.length
  | 0, i, hf, hi, _ => by omega
  | f + 1, i, hf, hi, h => by
    rw [lineGo]
    by_cases hil : i < l.length
    · have hb := h i (Nat.le_refl _) hil
      have he : endsC (by8 l i) = false := by unfold endsC; rw [decide_eq_false_iff_not]; omega
      rw [if_pos hil, chr_asc hil hb.2]
      simp only
      rw [if_neg (by decide), he, if_neg (by simp)]
      exact lineGo_asc l f (i + 1) (by omega) (by omega) (fun k k1 k2 => h k (by omega) k2)
    · rw [if_neg hil, show i = l.length by omega]
/-- what stands behind all -/
theorem skip_tail {l : List UInt8} {q f : Nat} {b : Bool} (hd : l.drop q = tail) (hf : l.length < q + f) (hq : q ≤ l.length) : skipGo l f q b = .ok (l.length, true) := by
  have hlen := congrArg List.length hd
  rw [List.length_drop] at hlen
  have hlen7 : l.length - q = 7 := hlen
  have hb : ∀ k, by8 l (q + k) = by8 tail k := fun k => by rw [← by8_drop', hd]
  obtain ⟨g, rfl⟩ : ∃ g, f = g + 1 + 1 + 1 := ⟨f - 3, by omega⟩
  have b0 : by8 l q = 10 := by have := hb 0; rw [Nat.add_zero] at this; exact this
  have b1 : by8 l (q + 1) = 47 := hb 1
  have b2 : by8 l (q + 2) = 47 := hb 2
  have c0 := chr_asc (l := l) (i := q) (by omega) (by omega)
  have c1 := chr_asc (l := l) (i := q + 1) (by omega) (by omega)
  rw [b0] at c0
  rw [b1] at c1
  rw [skipGo, if_pos (by omega), c0]
  simp only
  rw [if_neg (by decide), if_pos (by decide), skipGo, if_pos (by omega), c1]
  simp only
  rw [if_neg (by decide), if_neg (by decide), if_neg (by decide), if_pos (pre2_mk (by omega) b1 b2), lineGo_asc l (l.length + 1) (q + 1) (by omega) (by omega) (fun k k1 k2 => by
    have e := hb (k - q)
    rw [show q + (k - q) = k by omega] at e
    rw [e]
    have hall : ∀ k, k < 7 → 1 ≤ k → 14 ≤ by8 tail k ∧ by8 tail k < 128 := by decide
    exact hall _ (by omega) (by omega))]
  simp only
  rw [skipGo, if_neg (by omega)]
/-- what is put in between -/
theorem skip_pad {l X : List UInt8} {q f : Nat} {b : Bool} (hd : l.drop q = pad ++ X) (hf : l.length < q + f) (hq : q ≤ l.length) : ∃ f3, l.length < q + 31 + f3 ∧ skipGo l f q b = skipGo l f3 (q + 31) true ∧ l.drop (q + 31) = X ∧ q + 31 ≤ l.length := by
  have hp : skipGo (pad ++ [97]) 40 0 false = .ok (31, true) := by kernel_rfl
  obtain ⟨c, c1, c2⟩ := skipGo_ag 40 0 false 31 true hp (Nat.zero_le _) (by decide)
  have hc : c = true := by rw [Bool.false_or] at c1; exact c1.symm
  subst hc
  have hlen := congrArg List.length hd
  rw [List.length_drop, List.length_append] at hlen
  have h31 : pad.length = 31 := rfl
  have A : Ag (pad ++ [97]) 0 l q (31 - 0) := ⟨by decide, by omega, fun k hk => by
    rw [← by8_drop', hd, by8_left' _ _ (by rw [h31]; exact hk), Nat.zero_add, by8_left' _ _ (by rw [h31]; exact hk)]⟩
  obtain ⟨f3, q1, q2⟩ := c2 l q f b A (fun h => absurd h (by decide)) hf
  refine ⟨f3, q1, by rw [q2, Bool.or_true], ?_, by omega⟩
  rw [← List.drop_drop, hd]
  exact List.drop_left' h31
/-- where a lexeme begins nothing is skipped -/
theorem skip_none {l l' : List UInt8} {j p n f : Nat} {b : Bool} (hs : (chr l j).2 ≠ 0 ∧ endsC (chr l j).1 = false ∧ blankC (chr l j).1 = false ∧ [47, 47].isPrefixOf (l.drop j) = false ∧ [47, 42].isPrefixOf (l.drop j) = false)
    (hj : j < l.length) (ha : by8 l j < 128) (B : Bl l j l' p n) (n1 : 1 ≤ n) (hf : 0 < f) : skipGo l' f p b = .ok (p, b) := by
  obtain ⟨g, rfl⟩ : ∃ g, f = g + 1 := ⟨f - 1, by omega⟩
  have hlt := B.lt
  have hc := chr_asc hj ha
  rw [hc] at hs
  simp only at hs
  obtain ⟨-, s2, s3, s4, s5⟩ := hs
  have e0 := B.at (k := 0) (by omega)
  rw [Nat.add_zero, Nat.add_zero] at e0
  have hc' := chr_asc (l := l') (i := p) (by omega) (by rw [e0]; exact ha)
  rw [e0] at hc'
  have hno : ∀ y : UInt8, y.toNat ≠ 32 → y.toNat ≠ 10 → [47, y].isPrefixOf (l.drop j) = false → ¬ [47, y].isPrefixOf (l'.drop p) = true := by
    intro y y1 y2 hy g
    obtain ⟨g1, g2, g3⟩ := pre2 g
    rcases (show n = 1 ∨ 2 ≤ n by omega) with z | z
    · have := B.bl; rw [z] at this; omega
    · have := B.ag.h1
      have w : [47, y].isPrefixOf (l.drop j) = true := pre2_mk (by omega) (by rw [← e0]; exact g2) (by rw [← B.at (k := 1) (by omega)]; exact g3)
      rw [w] at hy; cases hy
  rw [skipGo, if_pos (by omega), hc']
  simp only
  rw [if_neg (by decide), s2, if_neg (by simp), s3, if_neg (by simp), if_neg (hno 47 (by decide) (by decide) s4), if_neg (hno 42 (by decide) (by decide) s5)]
def key (x : Lx) : Nat × List UInt8 × List UInt8 := (x.kind, x.text, x.num)
/-- where the part behind a lexeme ends -/
def nxt (l : List UInt8) : List Lx → Nat
  | [] => l.length
  | y :: _ => y.at_
theorem spr_form (l : List UInt8) (i : Nat) (r : List Lx) : ∃ X c, spr l i r = Go.Proofs.YtepmneongpbglaaGreatDoor.sub l i (nxt l r) ++ c :: X ∧ (c = 32 ∨ c = 10) := by
  cases r with
  | nil => exact ⟨[47, 47, 32, 101, 110, 100], 10, rfl, .inr rfl⟩
  | cons y r => exact ⟨_, 32, rfl, .inl rfl⟩
theorem spr_drop (l : List UInt8) {j k : Nat} (r : List Lx) (h1 : j ≤ k) (h2 : k ≤ nxt l r) (h3 : nxt l r ≤ l.length) : (spr l j r).drop (k - j) = spr l k r := by
  have hs : ∀ e, k ≤ e → e ≤ l.length → ∀ X : List UInt8, (Go.Proofs.YtepmneongpbglaaGreatDoor.sub l j e ++ X).drop (k - j) = Go.Proofs.YtepmneongpbglaaGreatDoor.sub l k e ++ X := fun e e1 e2 X => by
    rw [List.drop_append_of_le_length (by rw [sub_len' l (by omega) e2]; omega)]
    congr 1
    unfold Go.Proofs.YtepmneongpbglaaGreatDoor.sub
    rw [List.drop_take, List.drop_drop]
    congr 1
    · omega
    · congr 1; omega
  cases r with
  | nil => exact hs l.length h2 (Nat.le_refl _) _
  | cons y r => exact hs y.at_ h2 h3 _
/-- SPREAD OUT, THE LEXEMES ARE THE SAME -/
theorem lexGo_spread (C : List UInt8 → Bool) (l : List UInt8) : ∀ (f i : Nat) (xs : List Lx), lexGo C l f i = some (.ok xs) → i ≤ l.length → l.length < i + f → ∀ (l' : List UInt8) (i' f' : Nat), l'.drop i' = spr l i xs → i' ≤ l'.length → l'.length < i' + f' →
    ∃ ys, lexGo C l' f' i' = some (.ok ys) ∧ ys.map key = xs.map key ∧ ∀ y ∈ ys, y.line = true
  | 0, i, xs, h, hi, hf, l', i', f', hd, hi', hf' => by omega
  | f + 1, i, xs, h, hi, hf, l', i', f', hd, hi', hf' => by
    rw [lexGo] at h
    cases hs : skip l i with
    | error k => rw [hs] at h; cases h
    | ok jl =>
      obtain ⟨j, ln⟩ := jl
      rw [hs] at h
      simp only at h
      have hs' : skipGo l (l.length + 1) i false = .ok (j, ln) := by unfold skip at hs; exact hs
      have hj := skipGo_le l _ _ _ _ _ hs' hi
      obtain ⟨c, c1, c2⟩ := skipGo_ag _ _ _ _ _ hs' hi (by omega)
      obtain ⟨g', rfl⟩ : ∃ g, f' = g + 1 := ⟨f' - 1, by omega⟩
      by_cases e : j = l.length
      · rw [if_pos e] at h
        cases h
        obtain ⟨A, d1, d2⟩ := ag_of (X := tail) (e := l.length) hd hi (Nat.le_refl _) hi'
        have h7 : tail.length = 7 := rfl
        have hq : i' + (l.length - i) < l'.length := by omega
        have b10 : by8 l' (i' + (l.length - i)) = 10 := by
          have := by8_drop' l' (i' + (l.length - i)) 0
          rw [d1, Nat.add_zero] at this
          rw [← this]; rfl
        rw [e] at c2
        obtain ⟨f2, q1, q2⟩ := c2 l' i' (l'.length + 1) false A (fun _ => ⟨b10, hq⟩) (by omega)
        have hk : skip l' i' = .ok (l'.length, true) := by
          unfold skip
          rw [q2]
          exact skip_tail d1 q1 (by omega)
        exact ⟨[], by rw [lexGo, hk]; simp, rfl, by simp⟩
      · rw [if_neg e] at h
        have hjl : j < l.length := by omega
        rcases ho : one C l j ln with bb | ⟨x, k⟩
        · rw [ho] at h; cases bb <;> cases h
        · rw [ho] at h
          simp only at h
          obtain ⟨r0, h1, h2⟩ := Option.map_eq_some_iff.1 h
          cases r0 with
          | error k2 => cases h2
          | ok r =>
            cases h2
            have hok := one_ok ho hjl
            have hat : x.at_ = j := hok.1
            have hcov := lexGo_cov C l f k r h1 hok.2.2.1
            have hnx : k ≤ nxt l r ∧ nxt l r ≤ l.length := by
              cases r with
              | nil => exact ⟨hok.2.2.1, Nat.le_refl _⟩
              | cons y r => exact ⟨hcov.1, Nat.le_of_lt hcov.2.1⟩
            have hd2 : l'.drop i' = Go.Proofs.YtepmneongpbglaaGreatDoor.sub l i j ++ (pad ++ spr l j r) := by
              rw [hd, ← hat]; rfl
            obtain ⟨A, d1, d2⟩ := ag_of hd2 hj.1 hj.2 hi'
            obtain ⟨f2, q1, q2⟩ := c2 l' i' (l'.length + 1) false A (fun g => absurd g e) (by omega)
            obtain ⟨f3, p1, p2, p3, p4⟩ := skip_pad (b := false || c) d1 q1 (by omega)
            obtain ⟨P, hP⟩ : ∃ P, i' + (j - i) + 31 = P := ⟨_, rfl⟩
            rw [hP] at p1 p2 p3 p4
            obtain ⟨X, ch, sf, sc⟩ := spr_form l j r
            rw [sf] at p3
            obtain ⟨A2, w1, w2⟩ := ag_of p3 (by omega) hnx.2 p4
            have hB : Bl l j l' P (nxt l r - j) := ⟨A2, by
              have := by8_drop' l' (P + (nxt l r - j)) 0
              rw [w1, Nat.add_zero] at this
              rw [← this]
              rcases sc with g | g <;> rw [g]
              · exact .inl rfl
              · exact .inr rfl, by rw [List.length_cons] at w2; omega⟩
            have hst := skipGo_stop l _ _ _ _ _ hs' hi (by omega) hjl
            have hasc := one_asc ho
            have hPl : P < l'.length := by have := hB.lt; omega
            have hskip : skip l' i' = .ok (P, true) := by
              unfold skip
              rw [q2, p2]
              exact skip_none hst hjl hasc hB (by omega) (by omega)
            have hone := one_ag (ln' := true) ho hjl hB (by omega)
            rw [← sf] at p3
            have hd3 : l'.drop (P + (k - j)) = spr l k r := by
              rw [← List.drop_drop, p3]
              exact spr_drop l r (by omega) hnx.1 hnx.2
            obtain ⟨ys, y1, y2, y3⟩ := lexGo_spread C l f k r h1 hok.2.2.1 (by omega) l' (P + (k - j)) g' hd3 (by have := A2.h2; omega) (by omega)
            refine ⟨⟨x.kind, x.text, x.num, P, true⟩ :: ys, ?_, ?_, ?_⟩
            · rw [lexGo, hskip]
              simp only
              rw [if_neg (by omega), hone]
              simp only
              rw [y1]
              rfl
            · rw [List.map_cons, List.map_cons, y2]; rfl
            · intro y hy
              rcases List.mem_cons.1 hy with g | g
              · rw [g]
              · exact y3 y g
theorem lex_spread {C : List UInt8 → Bool} {l : List UInt8} {xs : List Lx} (h : lex C l = some (.ok xs)) : ∃ ys, lex C (spr l 0 xs) = some (.ok ys) ∧ ys.map key = xs.map key ∧ ∀ y ∈ ys, y.line = true :=
  lexGo_spread C l _ 0 xs h (Nat.zero_le _) (by omega) (spr l 0 xs) 0 _ rfl (Nat.zero_le _) (by omega)
end Lx
end Go.Proofs.YtepmneongpbglaaGreatDoor
