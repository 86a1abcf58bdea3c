/- Layer 2, in plain words: reading characters by what is left; line ends; what is written is read. -/
import Derived.Test.YtaknfofppknloaaDoorTkPure
import Derived.Test.YtaknfofppknloaaDoorUtfPure5
namespace Go.Proofs.YtaknfofppknloaaDoor
open Go Go.RowKit
set_option linter.all false
namespace Tk
/-- reading, by what is left -/
def rd : Nat → List UInt8 → Cs × Nat
  | 0, _ => ([], 0)
  | _ + 1, [] => ([], 0)
  | f + 1, b :: m =>
    if (chr (b :: m) 0).2 = 0 then ([], 10)
    else if (chr (b :: m) 0).1 = 13 then
      let r := rd f (m.drop (if by8 m 0 = 10 then 1 else 0))
      (10 :: r.1, r.2)
    else if allowed (chr (b :: m) 0).1 then
      let r := rd f ((b :: m).drop (chr (b :: m) 0).2)
      ((chr (b :: m) 0).1 :: r.1, r.2)
    else ([], 20)
theorem chr_drop (l : List UInt8) (i : Nat) (h : i ≤ l.length) : chr l i = chr (l.drop i) 0 := by
  have := chr_right (l.take i) (l.drop i) 0
  rw [List.take_append_drop, List.length_take, Nat.min_eq_left h] at this
  exact this
theorem by8_drop (l : List UInt8) (i k : Nat) : by8 (l.drop i) k = by8 l (i + k) := by
  simp [by8, List.getD_eq_getElem?_getD]
theorem chr_13 {l : List UInt8} (h : (chr l 0).1 = 13) : ∃ m, l = 13 :: m ∧ (chr l 0).2 = 1 := by
  rcases l with _ | ⟨b, m⟩
  · simp [chr] at h
  · have hz : (chr (b :: m) 0).2 ≠ 0 := by
      intro hz
      unfold chr at h hz
      repeat' split at h
      all_goals first | (simp at h; done) | skip
      all_goals simp_all
      all_goals
        unfold chrN at h hz
        split at h <;> simp_all
    obtain ⟨h1, h2⟩ := enc_chr (b :: m) 0 hz
    have h3 := chr_end (b :: m) 0 hz
    rw [h] at h2
    have e13 : enc 13 = [13] := by decide
    rw [e13] at h2
    have h4 := congrArg List.length h2
    rw [length_sub] at h4
    simp only [List.length_cons, List.length_nil] at h4 h3
    have h5 : (chr (b :: m) 0).2 = 1 := by omega
    rw [h5, sub_one _ _ (by simp)] at h2
    have h6 : UInt8.ofNat (by8 (b :: m) 0) = b := by simp [by8]
    rw [h6] at h2
    exact ⟨m, by rw [(List.cons.inj h2).1], h5⟩
theorem readGo_rd (l : List UInt8) : ∀ (f i : Nat), readGo l f i = rd f (l.drop i)
  | 0, i => by rw [readGo, rd]
  | f + 1, i => by
    rw [readGo]
    by_cases h : i < l.length
    · rw [if_pos h]
      have e := chr_drop l i (by omega)
      rw [e]
      rcases hd : l.drop i with _ | ⟨b, m⟩
      · have := congrArg List.length hd; rw [List.length_drop] at this; simp at this; omega
      have hm : m = l.drop (i + 1) := by rw [← List.drop_drop, hd]; rfl
      rw [rd]
      by_cases h1 : (chr (b :: m) 0).2 = 0
      · rw [if_pos h1, if_pos h1]
      rw [if_neg h1, if_neg h1]
      by_cases h2 : (chr (b :: m) 0).1 = 13
      · rw [if_pos h2, if_pos h2]
        have e2 : by8 l (i + 1) = by8 m 0 := by rw [hm, by8_drop]
        simp only [readGo_rd l f, e2]
        by_cases h3 : by8 m 0 = 10
        · simp only [h3, if_true]
          rw [hm, List.drop_drop]
        · simp only [h3, if_false, List.drop_zero]
          rw [← hm]
      rw [if_neg h2, if_neg h2]
      by_cases h4 : allowed (chr (b :: m) 0).1 = true
      · rw [if_pos h4, if_pos h4]
        simp only [readGo_rd l f]
        rw [← hd, List.drop_drop]
      · rw [if_neg h4, if_neg h4]
    · rw [if_neg h, List.drop_of_length_le (by omega), rd]
theorem chr_le {b : UInt8} {m : List UInt8} (h : (chr (b :: m) 0).2 ≠ 0) : (chr (b :: m) 0).2 ≤ m.length + 1 := by
  have := chr_end (b :: m) 0 h; simp at this; omega
theorem rd_fuel : ∀ (f g : Nat) (m : List UInt8), m.length ≤ f → m.length ≤ g → rd f m = rd g m
  | 0, g, m, h, _ => by
    obtain rfl : m = [] := List.length_eq_zero_iff.1 (by omega)
    cases g <;> rfl
  | f + 1, 0, m, _, h => by
    obtain rfl : m = [] := List.length_eq_zero_iff.1 (by omega)
    rfl
  | f + 1, g + 1, [], _, _ => rfl
  | f + 1, g + 1, b :: m, hf, hg => by
    simp only [List.length_cons] at hf hg
    rw [rd, rd]
    by_cases h1 : (chr (b :: m) 0).2 = 0
    · rw [if_pos h1, if_pos h1]
    · rw [if_neg h1, if_neg h1]
      rw [rd_fuel f g (m.drop (if by8 m 0 = 10 then 1 else 0)) (by rw [List.length_drop]; omega) (by rw [List.length_drop]; omega)]
      rw [rd_fuel f g ((b :: m).drop (chr (b :: m) 0).2) (by rw [List.length_drop, List.length_cons]; omega) (by rw [List.length_drop, List.length_cons]; omega)]
def rdA (m : List UInt8) : Cs × Nat := rd m.length m
theorem read_rdA (l : List UInt8) : read l = rdA l := by
  unfold read rdA
  rw [readGo_rd, List.drop_zero]
  exact rd_fuel _ _ _ (by omega) (Nat.le_refl _)
theorem rdA_nil : rdA [] = ([], 0) := rfl
theorem rdA_bad {b : UInt8} {m : List UInt8} (h : (chr (b :: m) 0).2 = 0) : rdA (b :: m) = ([], 10) := by
  unfold rdA; rw [List.length_cons, rd, if_pos h]
theorem chr_char (c : Nat) (t : List UInt8) (h : okc c) : chr (enc c ++ t) 0 = (c, (enc c).length) := by
  rw [chr_left _ _ _ (by rw [chr_enc c h]; exact enc_pos c), chr_enc c h]
theorem enc_cons (c : Nat) : ∃ b m, enc c = b :: m := by
  rcases h : enc c with _ | ⟨b, m⟩
  · exact absurd (by rw [h]; rfl) (enc_pos c)
  · exact ⟨b, m, rfl⟩
theorem rdA_char (c : Nat) (t : List UInt8) (h : okc c) (h1 : c ≠ 13) : rdA (enc c ++ t) = if allowed c then (c :: (rdA t).1, (rdA t).2) else ([], 20) := by
  have e := chr_char c t h
  obtain ⟨b, m, hb⟩ := enc_cons c
  have hp := enc_pos c
  unfold rdA
  rw [hb, List.cons_append] at e ⊢
  rw [List.length_cons, rd, e, if_neg (by simpa using hp), if_neg h1]
  by_cases ha : allowed c = true
  · rw [if_pos ha, if_pos ha]
    have e2 : (b :: (m ++ t)).drop (b :: m).length = t := by rw [← List.cons_append, List.drop_left]
    simp only [e2]
    rw [rd_fuel (m ++ t).length t.length t (by simp) (Nat.le_refl _)]
  · rw [if_neg ha, if_neg ha]
theorem rdA_cr (t : List UInt8) : rdA (13 :: t) = (10 :: (rdA (t.drop (if by8 t 0 = 10 then 1 else 0))).1, (rdA (t.drop (if by8 t 0 = 10 then 1 else 0))).2) := by
  have e := chr_char 13 t (by unfold okc; omega)
  have e13 : enc 13 = [13] := by decide
  rw [e13] at e
  unfold rdA
  change chr (13 :: t) 0 = (13, 1) at e
  rw [List.length_cons, rd, e]
  simp only [Nat.one_ne_zero, if_false, if_true]
  rw [rd_fuel t.length (t.drop (if by8 t 0 = 10 then 1 else 0)).length _ (by rw [List.length_drop]; omega) (Nat.le_refl _)]
theorem allowed_ne13 {c : Nat} (h : allowed c = true) : c ≠ 13 := by
  simp only [allowed, decide_eq_true_eq] at h; omega
theorem allowed_okc' {c : Nat} (h : allowed c = true) : okc c := by
  simp only [allowed, decide_eq_true_eq] at h; unfold okc; omega
/-- WHAT IS WRITTEN IS READ -/
theorem rdA_narrow : ∀ (D : Cs) (t : List UInt8), (∀ c ∈ D, allowed c = true) → rdA (narrow D ++ t) = (D ++ (rdA t).1, (rdA t).2)
  | [], t, _ => rfl
  | c :: D, t, h => by
    have hc := h c (by simp)
    have e : narrow (c :: D) ++ t = enc c ++ (narrow D ++ t) := by simp [narrow]
    rw [e, rdA_char c _ (allowed_okc' hc) (allowed_ne13 hc), if_pos hc, rdA_narrow D t fun x hx => h x (by simp [hx])]
    rfl
theorem read_narrow (D : Cs) (h : ∀ c ∈ D, allowed c = true) : read (narrow D) = (D, 0) := by
  have := rdA_narrow D [] h
  rw [List.append_nil] at this
  rw [read_rdA, this, rdA_nil, List.append_nil]
/-- a text's first character, or that it has none -/
theorem first_char (b : UInt8) (m : List UInt8) : (chr (b :: m) 0).2 = 0 ∨ ∃ c t, okc c ∧ b :: m = enc c ++ t := by
  by_cases h : (chr (b :: m) 0).2 = 0
  · exact .inl h
  · obtain ⟨h1, h2⟩ := enc_chr (b :: m) 0 h
    refine .inr ⟨_, (b :: m).drop (chr (b :: m) 0).2, h1, ?_⟩
    rw [← h2]
    unfold sub
    simp
theorem enc_dn {c : Nat} (h : c < 128) : enc c = [UInt8.ofNat c] := by unfold enc; rw [if_pos h]
theorem enc_up {c : Nat} (h : 128 ≤ c) (h2 : okc c) : ∀ b ∈ enc c, 128 ≤ b.toNat := by
  have h3 := okc_le h2
  unfold enc
  rw [if_neg (by omega)]
  intro b hb
  split at hb
  · simp only [List.mem_cons, List.not_mem_nil, or_false] at hb
    rcases hb with rfl | rfl <;> (rw [UInt8.toNat_ofNat']; omega)
  split at hb
  · simp only [List.mem_cons, List.not_mem_nil, or_false] at hb
    rcases hb with rfl | rfl | rfl <;> (rw [UInt8.toNat_ofNat']; omega)
  · simp only [List.mem_cons, List.not_mem_nil, or_false] at hb
    rcases hb with rfl | rfl | rfl | rfl <;> (rw [UInt8.toNat_ofNat']; omega)
/-- a change of single bytes below 128 -/
structure Low (g : UInt8 → List UInt8) : Prop where
  high : ∀ b : UInt8, 128 ≤ b.toNat → g b = [b]
  low : ∀ b : UInt8, b.toNat < 128 → ∃ x t, g b = x :: t ∧ x.toNat < 128
theorem Low.flat_high {g : UInt8 → List UInt8} (G : Low g) : ∀ (x : List UInt8), (∀ b ∈ x, 128 ≤ b.toNat) → x.flatMap g = x
  | [], _ => rfl
  | b :: x, h => by rw [List.flatMap_cons, G.high b (h b (by simp)), G.flat_high x fun y hy => h y (by simp [hy])]; rfl
theorem Low.back {g : UInt8 → List UInt8} (G : Low g) : ∀ (x m t : List UInt8), (∀ b ∈ x, 128 ≤ b.toNat) → m.flatMap g = x ++ t → ∃ t', m = x ++ t' ∧ t = t'.flatMap g
  | [], m, t, _, h => ⟨m, rfl, h.symm⟩
  | b :: x, [], t, _, h => by simp at h
  | b :: x, a :: m, t, hx, h => by
    have hb := hx b (by simp)
    rw [List.flatMap_cons] at h
    rcases Nat.lt_or_ge a.toNat 128 with ha | ha
    · obtain ⟨y, s, e, hy⟩ := G.low a ha
      rw [e] at h
      have := (List.cons.inj h).1
      subst this
      omega
    · rw [G.high a ha] at h
      have h1 := List.cons.inj h
      obtain ⟨t', h2, h3⟩ := G.back x m t (fun y hy => hx y (by simp [hy])) h1.2
      exact ⟨t', by rw [h1.1, h2]; rfl, h3⟩
theorem Low.bad {g : UInt8 → List UInt8} (G : Low g) {b : UInt8} {m : List UInt8} (h : (chr (b :: m) 0).2 = 0) : ∃ b' m', (b :: m).flatMap g = b' :: m' ∧ (chr (b' :: m') 0).2 = 0 := by
  have hb : 128 ≤ b.toNat := by
    rcases Nat.lt_or_ge b.toNat 128 with h1 | h1
    · exfalso
      have := chr_char b.toNat m (by unfold okc; omega)
      rw [enc_dn h1] at this
      have e : UInt8.ofNat b.toNat = b := by simp
      rw [e] at this
      change chr (b :: m) 0 = _ at this
      rw [this] at h
      simp at h
    · exact h1
  refine ⟨b, m.flatMap g, by rw [List.flatMap_cons, G.high b hb]; rfl, ?_⟩
  rcases first_char b (m.flatMap g) with h1 | ⟨c, t, h1, h2⟩
  · exact h1
  · exfalso
    have hc : 128 ≤ c := by
      rcases Nat.lt_or_ge c 128 with h3 | h3
      · rw [enc_dn h3] at h2
        have := (List.cons.inj h2).1
        subst this
        rw [UInt8.toNat_ofNat'] at hb
        omega
      · exact h3
    have h4 : (b :: m).flatMap g = enc c ++ t := by rw [List.flatMap_cons, G.high b hb]; exact h2
    obtain ⟨t', h5, -⟩ := G.back (enc c) (b :: m) t (enc_up hc h1) h4
    rw [h5, chr_char c t' h1] at h
    exact enc_pos c h
/-- the line ends changed -/
def endB (E : List UInt8) (b : UInt8) : List UInt8 := if b = 10 then E else [b]
def lines (E : List UInt8) (l : List UInt8) : List UInt8 := l.flatMap (endB E)
theorem low_endB (t : List UInt8) : Low (endB (13 :: t)) := by
  refine ⟨fun b hb => ?_, fun b hb => ?_⟩
  · unfold endB; rw [if_neg (fun e => by subst e; simp at hb)]
  · unfold endB; split
    · exact ⟨13, t, rfl, by decide⟩
    · exact ⟨b, [], rfl, hb⟩
theorem by8_lines (t m : List UInt8) (h : ∀ b ∈ m, b ≠ 13) : by8 (lines (13 :: t) m) 0 ≠ 10 := by
  cases m with
  | nil => simp [lines, by8]
  | cons b m =>
    unfold lines
    rw [List.flatMap_cons]
    unfold endB
    split
    · simp [by8]
    · rename_i hb
      intro e
      apply hb
      have e1 : by8 ([b] ++ List.flatMap (fun b => if b = 10 then 13 :: t else [b]) m) 0 = b.toNat := by simp [by8]
      rw [e1] at e
      exact UInt8.toNat_inj.1 e
theorem lines_any (t : List UInt8) (ht : t = [] ∨ t = [10]) : ∀ (n : Nat) (m : List UInt8), m.length ≤ n → (∀ b ∈ m, b ≠ 13) → rdA (lines (13 :: t) m) = rdA m
  | _, [], _, _ => rfl
  | 0, b :: m, h, _ => by simp at h
  | n + 1, b :: m, hn, h13 => by
    simp only [List.length_cons] at hn
    have G := low_endB t
    by_cases hb : b = 10
    · subst hb
      have e10 : enc 10 = [10] := by decide
      have e1 := rdA_char 10 m (by unfold okc; omega) (by omega)
      rw [e10, if_pos (by decide)] at e1
      change rdA (10 :: m) = _ at e1
      have ih := lines_any t ht n m (by omega) fun x hx => h13 x (by simp [hx])
      have e2 : lines (13 :: t) (10 :: m) = 13 :: (t ++ lines (13 :: t) m) := by simp [lines, endB]
      have e3 : (t ++ lines (13 :: t) m).drop (if by8 (t ++ lines (13 :: t) m) 0 = 10 then 1 else 0) = lines (13 :: t) m := by
        rcases ht with rfl | rfl
        · rw [List.nil_append, if_neg (by8_lines [] m fun x hx => h13 x (by simp [hx]))]; rfl
        · rw [if_pos (by simp [by8])]; rfl
      rw [e2, rdA_cr, e3, ih, e1]
    · rcases first_char b m with h1 | ⟨c, t', h1, h2⟩
      · obtain ⟨b', m', h2, h3⟩ := G.bad h1
        unfold lines
        rw [h2, rdA_bad h3, rdA_bad h1]
      · have hl : t'.length ≤ n := by
          have := congrArg List.length h2
          have h3 := enc_pos c
          simp at this; omega
        have ih := lines_any t ht n t' hl fun x hx => h13 x (by rw [h2]; simp [hx])
        have hc : c ≠ 13 := by
          rintro rfl
          have e13 : enc 13 = [13] := by decide
          rw [e13] at h2
          exact h13 b (by simp) (List.cons.inj h2).1
        have he : (enc c).flatMap (endB (13 :: t)) = enc c := by
          rcases Nat.lt_or_ge c 128 with h3 | h3
          · have hh : b = UInt8.ofNat c := by rw [enc_dn h3] at h2; exact (List.cons.inj h2).1
            rw [enc_dn h3]
            simp only [List.flatMap_cons, List.flatMap_nil, List.append_nil]
            unfold endB
            rw [if_neg (by rw [← hh]; exact hb)]
          · exact G.flat_high _ (enc_up h3 h1)
        have e1 : lines (13 :: t) (b :: m) = enc c ++ lines (13 :: t) t' := by
          rw [h2]; unfold lines; rw [List.flatMap_append, he]
        rw [e1, h2, rdA_char c _ h1 hc, rdA_char c _ h1 hc, ih]
theorem lines_len (t m : List UInt8) (ht : t = [] ∨ t = [10]) : (lines (13 :: t) m).length ≤ 2 * m.length := by
  induction m with
  | nil => simp [lines]
  | cons b m ih =>
    have e : lines (13 :: t) (b :: m) = endB (13 :: t) b ++ lines (13 :: t) m := rfl
    have h : (endB (13 :: t) b).length ≤ 2 := by
      unfold endB
      rcases ht with rfl | rfl <;> split <;> simp
    rw [e, List.length_append, List.length_cons]; omega
/-- LINE ENDS OF THE ONE KIND OR THE OTHER ARE READ ALIKE -/
theorem whole_lines (t : List UInt8) (ht : t = [] ∨ t = [10]) (m : List UInt8) (hm : m.length ≤ 2000) (h : ∀ b ∈ m, b ≠ 13) : whole (lines (13 :: t) m) = whole m := by
  have h1 := lines_len t m ht
  unfold whole
  rw [if_neg (show ¬ 65536 < (lines (13 :: t) m).length by omega), if_neg (show ¬ 65536 < m.length by omega), read_rdA, read_rdA, lines_any t ht _ m (Nat.le_refl _) h]
end Tk
end Go.Proofs.YtaknfofppknloaaDoor
