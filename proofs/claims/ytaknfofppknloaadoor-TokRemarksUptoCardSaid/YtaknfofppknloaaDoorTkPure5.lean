/- Layer 2, in plain words: what a part of the scanner has gone over, and that what stands behind it counts for nothing. -/
import Derived.Test.YtaknfofppknloaaDoorTkPure4
namespace Go.Proofs.YtaknfofppknloaaDoor
open Go Go.RowKit
set_option linter.all false
namespace Tk
/-- the first so many are the same, whatever is behind them -/
theorem pre_app {t : List Nat} {a : Cs} (b : Cs) (h : pre t a = true) : pre t (a ++ b) = true := by
  have h1 := pre_le h
  unfold pre at h ⊢
  rw [List.take_append_of_le_length h1]; exact h
theorem pre_same {t : List Nat} {a : Cs} (b c : Cs) (h : t.length ≤ a.length) : pre t (a ++ b) = pre t (a ++ c) := by
  unfold pre
  rw [List.take_append_of_le_length h, List.take_append_of_le_length h]
theorem pre_split {t : List Nat} {xs : Cs} (h : pre t xs = true) : xs = t ++ xs.drop t.length := by
  unfold pre at h
  have h1 := of_decide_eq_true h
  conv => lhs; rw [← List.take_append_drop t.length xs, h1]
theorem pre_self (t : List Nat) (y : Cs) : pre t (t ++ y) = true := by
  unfold pre; simp
theorem takeWhile_all (p : Nat → Bool) : ∀ xs : Cs, ∀ c ∈ xs.takeWhile p, p c = true
  | [], c, h => by cases h
  | x :: xs, c, h => by
    rw [List.takeWhile_cons] at h
    split at h
    · rename_i hp
      rcases List.mem_cons.1 h with rfl | h
      · exact hp
      · exact takeWhile_all p xs c h
    · cases h
theorem takeWhile_app (p : Nat → Bool) : ∀ (a y : Cs), (∀ c ∈ a, p c = true) → hd p y = false → (a ++ y).takeWhile p = a ∧ (a ++ y).dropWhile p = y
  | [], [], _, _ => ⟨rfl, rfl⟩
  | [], c :: y, _, h => by
    simp only [hd] at h
    simp [List.takeWhile_cons, List.dropWhile_cons, h]
  | c :: a, y, h, hy => by
    have hc := h c (by simp)
    obtain ⟨i1, i2⟩ := takeWhile_app p a y (fun x hx => h x (by simp [hx])) hy
    simp [List.takeWhile_cons, List.dropWhile_cons, hc, i1, i2]
theorem goesOn_ne {c : Nat} (h : goesOn c = true) : c ≠ 60 ∧ c ≠ 62 ∧ c ≠ 33 ∧ c ≠ 63 ∧ c ≠ 47 := by
  simp only [goesOn, begins, Bool.or_eq_true, decide_eq_true_eq] at h; omega
theorem name_ext {xs nm r : Cs} (h : name xs = .ok (nm, r)) : xs = nm ++ r ∧ (∀ c ∈ nm, goesOn c = true) ∧ hd begins nm = true ∧ ∀ y, hd goesOn y = false → name (nm ++ y) = .ok (nm, y) := by
  unfold name at h
  split at h
  · rename_i hb
    split at h
    · cases h
    · rename_i hl
      have h2 := (Prod.mk.inj (Except.ok.inj h))
      obtain ⟨rfl, rfl⟩ := h2
      have hbeg : hd begins (xs.takeWhile goesOn) = true := by
        cases xs with
        | nil => simp [hd] at hb
        | cons c r =>
          simp only [hd] at hb
          have hg : goesOn c = true := by simp [goesOn, hb]
          rw [List.takeWhile_cons, hg]
          exact hb
      refine ⟨(List.takeWhile_append_dropWhile).symm, takeWhile_all _ _, hbeg, fun y hy => ?_⟩
      obtain ⟨i1, i2⟩ := takeWhile_app goesOn (xs.takeWhile goesOn) y (takeWhile_all _ _) hy
      unfold name
      rw [i1, i2]
      have : hd begins (xs.takeWhile goesOn ++ y) = true := by
        cases hx : xs.takeWhile goesOn with
        | nil => rw [hx] at hbeg; simp [hd] at hbeg
        | cons c r => rw [hx] at hbeg; exact hbeg
      rw [if_pos this, if_neg hl]
  · cases h
theorem blanks_ext (xs : Cs) : ∃ b, xs = b ++ blanks xs ∧ (∀ c ∈ b, blank c = true) ∧ ∀ y, hd blank y = false → blanks (b ++ y) = y :=
  ⟨xs.takeWhile blank, (List.takeWhile_append_dropWhile).symm, takeWhile_all _ _, fun y hy => (takeWhile_app blank _ y (takeWhile_all _ _) hy).2⟩
theorem blank_ne {c : Nat} (h : blank c = true) : c ≠ 60 ∧ c ≠ 62 ∧ goesOn c = false := by
  simp only [blank, decide_eq_true_eq] at h
  refine ⟨by omega, by omega, ?_⟩
  simp only [goesOn, begins, Bool.or_eq_false_iff, decide_eq_false_iff_not]
  omega
theorem blanks_hd (xs : Cs) : hd blank (blanks xs) = false := by
  unfold blanks
  induction xs with
  | nil => rfl
  | cons c r ih =>
    rw [List.dropWhile_cons]
    split
    · exact ih
    · rename_i h; simp only [hd]; simpa using h
theorem takeC_ext {c : Nat} {xs r : Cs} {u : Unit} (h : takeC c xs = .ok (u, r)) : xs = c :: r := by
  unfold takeC at h
  split at h
  · split at h
    · rename_i hd; cases h; rw [hd]
    · cases h
  · cases h
theorem takeC_self (c : Nat) (y : Cs) : takeC c (c :: y) = .ok ((), y) := by simp [takeC]
theorem dig_ne {base c : Nat} (hb : base ≤ 16) (h : dig c < base) : c ≠ 60 ∧ c ≠ 59 ∧ c ≠ 62 := by
  refine ⟨?_, ?_, ?_⟩ <;> (rintro rfl; simp [dig] at h; omega)
theorem numGo_ext (base : Nat) (hb : base ≤ 16) : ∀ (v : Nat) (xs : Cs) (a : Nat) (q : Cs), numGo base v xs = some (a, q) → ∃ p, xs = p ++ q ∧ (∀ c ∈ p, c ≠ 60 ∧ c ≠ 62) ∧ p ≠ [] ∧ ∀ y, numGo base v (p ++ y) = some (a, y)
  | v, [], a, q, h => by rw [numGo] at h; cases h
  | v, c :: r, a, q, h => by
    rw [numGo] at h
    split at h
    · rename_i hc
      cases h
      refine ⟨[c], rfl, fun x hx => by simp at hx; subst hx; omega, by simp, fun y => ?_⟩
      show numGo base _ (c :: y) = _
      rw [numGo, if_pos hc]
    · rename_i hc
      split at h
      · rename_i hg
        obtain ⟨p, h1, h2, -, h4⟩ := numGo_ext base hb _ r a q h
        refine ⟨c :: p, by rw [h1]; rfl, fun x hx => ?_, by simp, fun y => ?_⟩
        · rcases List.mem_cons.1 hx with rfl | hx
          · exact ⟨(dig_ne hb hg).1, (dig_ne hb hg).2.2⟩
          · exact h2 x hx
        · show numGo base v (c :: (p ++ y)) = _
          rw [numGo, if_neg hc, if_pos hg, h4]
      · cases h
theorem numOf_ext {base : Nat} (hb : base ≤ 16) {xs q : Cs} {a : Nat} (h : numOf base xs = some (a, q)) : ∃ p, xs = p ++ q ∧ (∀ c ∈ p, c ≠ 60 ∧ c ≠ 62) ∧ p ≠ [] ∧ ∀ y, numOf base (p ++ y) = some (a, y) := by
  unfold numOf at h
  split at h
  · cases h
  · rename_i hs
    rcases hg : numGo base 0 xs with _ | ⟨v, z⟩
    · rw [hg] at h; cases h
    · rw [hg] at h
      simp only [Option.bind_some] at h
      split at h
      · rename_i ha
        cases h
        obtain ⟨p, h1, h2, h3, h4⟩ := numGo_ext base hb 0 xs _ _ hg
        refine ⟨p, h1, h2, h3, fun y => ?_⟩
        have hh : hd (fun c => c == 59) (p ++ y) = false := by
          rw [h1] at hs
          cases p with
          | nil => exact absurd rfl h3
          | cons c p => simpa [hd] using hs
        unfold numOf
        rw [hh, h4]
        simp only [Bool.false_eq_true, if_false, Option.bind_some, ha, if_true]
      · cases h
theorem number_ext {xs q : Cs} {a : Nat} (h : number xs = some (a, q)) : ∃ p, xs = p ++ q ∧ (∀ c ∈ p, c ≠ 60 ∧ c ≠ 62) ∧ ∀ y, number (p ++ y) = some (a, y) := by
  unfold number at h
  split at h
  · obtain ⟨p, h1, h2, h3, h4⟩ := numOf_ext (by omega) h
    refine ⟨120 :: p, by rw [h1]; rfl, fun x hx => ?_, fun y => ?_⟩
    · rcases List.mem_cons.1 hx with rfl | hx
      · omega
      · exact h2 x hx
    · exact h4 y
  · rename_i hx
    obtain ⟨p, h1, h2, h3, h4⟩ := numOf_ext (by omega) h
    refine ⟨p, h1, h2, fun y => ?_⟩
    cases p with
    | nil => exact absurd rfl h3
    | cons c p =>
      unfold number
      split
      · rename_i e
        have := (List.cons.inj e).1
        subst this
        exact absurd (by rw [h1]; rfl) (hx (p ++ q))
      · exact h4 y
theorem ref_ext {xs q : Cs} {a : Nat} (h : reference xs = .ok (a, q)) : ∃ p, xs = 38 :: p ++ q ∧ (∀ c ∈ p, c ≠ 60 ∧ c ≠ 62) ∧ ∀ y, reference (38 :: p ++ y) = .ok (a, y) := by
  unfold reference at h
  split at h
  · rename_i hp
    cases h
    refine ⟨[108, 116, 59], pre_split hp, by decide, fun y => by simp [reference, pre, tLt]⟩
  split at h
  · rename_i hp
    cases h
    refine ⟨[103, 116, 59], pre_split hp, by decide, fun y => by simp [reference, pre, tLt, tGt]⟩
  split at h
  · rename_i hp
    cases h
    refine ⟨[97, 109, 112, 59], pre_split hp, by decide, fun y => by simp [reference, pre, tLt, tGt, tAmp]⟩
  split at h
  · rename_i hp
    cases h
    refine ⟨[113, 117, 111, 116, 59], pre_split hp, by decide, fun y => by simp [reference, pre, tLt, tGt, tAmp, tQuot]⟩
  split at h
  · rename_i hp
    cases h
    refine ⟨[97, 112, 111, 115, 59], pre_split hp, by decide, fun y => by simp [reference, pre, tLt, tGt, tAmp, tQuot, tApos]⟩
  split at h
  · rename_i hp
    rcases hn : number (xs.drop 2) with _ | ⟨b, z⟩
    · rw [hn] at h; cases h
    · rw [hn] at h
      cases h
      obtain ⟨p, h1, h2, h3⟩ := number_ext hn
      have h4 := pre_split hp
      simp only [List.length_cons, List.length_nil] at h4
      refine ⟨35 :: p, by rw [h4, h1]; rfl, fun x hx => ?_, fun y => ?_⟩
      · rcases List.mem_cons.1 hx with rfl | hx
        · omega
        · exact h2 x hx
      · have h5 := h3 y
        simp only [List.cons_append]
        unfold reference
        rw [if_neg (by simp [pre, tLt]), if_neg (by simp [pre, tGt]), if_neg (by simp [pre, tAmp]), if_neg (by simp [pre, tQuot]), if_neg (by simp [pre, tApos]), if_pos (by simp [pre])]
        simp only [List.drop_succ_cons, List.drop_zero]
        rw [h5]
  · cases h
theorem valGo_ext (m : Nat) (hm : m ≠ 60) : ∀ (f : Nat) (xs a q : Cs), valGo m f xs = .ok (a, q) → ∃ p, xs = p ++ q ∧ (∀ c ∈ p, c ≠ 60) ∧ ∀ (y : Cs) (g : Nat), p.length ≤ g → valGo m g (p ++ y) = .ok (a, y)
  | 0, xs, a, q, h => by rw [valGo] at h; cases h
  | f + 1, [], a, q, h => by rw [valGo] at h; cases h
  | f + 1, c :: r, a, q, h => by
    rw [valGo] at h
    split at h
    · rename_i hc
      cases h
      refine ⟨[c], rfl, fun x hx => by simp at hx; omega, fun y g hg => ?_⟩
      obtain ⟨g, rfl⟩ : ∃ k, g = k + 1 := ⟨g - 1, by simp at hg; omega⟩
      show valGo m (g + 1) (c :: y) = _
      rw [valGo, if_pos hc]
    rename_i hc
    split at h
    · cases h
    rename_i h60
    split at h
    · rename_i h38
      rcases hr : reference (c :: r) with e | ⟨v, z⟩
      · rw [hr] at h; cases h
      · rw [hr, and_ok] at h
        rcases hg : valGo m f z with e | ⟨b, w⟩
        · rw [hg] at h; cases h
        · rw [hg] at h
          cases h
          obtain ⟨p1, i1, i2, i3⟩ := ref_ext hr
          obtain ⟨p2, j1, j2, j3⟩ := valGo_ext m hm f z b q hg
          refine ⟨38 :: p1 ++ p2, by rw [i1, j1, List.append_assoc], fun x hx => ?_, fun y g hg => ?_⟩
          · rcases List.mem_append.1 hx with hx | hx
            · rcases List.mem_cons.1 hx with rfl | hx
              · omega
              · exact (i2 x hx).1
            · exact j2 x hx
          · simp only [List.length_append, List.length_cons] at hg
            obtain ⟨g, rfl⟩ : ∃ k, g = k + 1 := ⟨g - 1, by omega⟩
            have e := i3 (p2 ++ y)
            rw [List.append_assoc]
            rw [List.cons_append] at e ⊢
            rw [valGo, if_neg (by omega), if_neg (by omega), if_pos rfl, e, and_ok, j3 y g (by omega), and_ok]
    · rename_i h38
      rcases hg : valGo m f r with e | ⟨b, w⟩
      · rw [hg] at h; cases h
      · rw [hg] at h
        cases h
        obtain ⟨p2, j1, j2, j3⟩ := valGo_ext m hm f r b q hg
        refine ⟨c :: p2, by rw [j1]; rfl, fun x hx => ?_, fun y g hg => ?_⟩
        · rcases List.mem_cons.1 hx with rfl | hx
          · exact h60
          · exact j2 x hx
        · simp only [List.length_cons] at hg
          obtain ⟨g, rfl⟩ : ∃ k, g = k + 1 := ⟨g - 1, by omega⟩
          rw [List.cons_append, valGo, if_neg hc, if_neg h60, if_neg h38, j3 y g (by omega), and_ok]
theorem value_ext {xs a q : Cs} (h : value xs = .ok (a, q)) : ∃ p, xs = p ++ q ∧ (∀ c ∈ p, c ≠ 60) ∧ (∃ c r, p = c :: r ∧ (c = 34 ∨ c = 39)) ∧ ∀ y, value (p ++ y) = .ok (a, y) := by
  unfold value at h
  split at h
  · rename_i c r
    split at h
    · rename_i hc
      obtain ⟨p, h1, h2, h3⟩ := valGo_ext c (by omega) _ _ _ _ h
      refine ⟨c :: p, by rw [h1]; rfl, fun x hx => ?_, ⟨c, p, rfl, hc⟩, fun y => ?_⟩
      · rcases List.mem_cons.1 hx with rfl | hx
        · omega
        · exact h2 x hx
      · rw [List.cons_append]
        simp only [value]
        rw [if_pos hc]
        exact h3 y _ (by simp; omega)
    · cases h
  · cases h
/-- an attribute, a token, but for places -/
def Attr.bare (a : Attr) : Cs × Cs := (a.nm, a.val)
def Tok.bare (t : Tok) : Nat × Cs × List (Cs × Cs) × Cs × Bool := (t.kind, t.nm, t.attrs.map Attr.bare, t.text, t.empty)
theorem hd_app {p : Nat → Bool} {a : Cs} (h : a ≠ []) (b : Cs) : hd p (a ++ b) = hd p a := by
  cases a with
  | nil => exact absurd rfl h
  | cons c a => rfl
theorem hd_nil {p : Nat → Bool} {a : Cs} (h : hd p a = true) : a ≠ [] := by rintro rfl; cases h
theorem begins_ne {c : Nat} (h : begins c = true) : blank c = false ∧ c ≠ 60 ∧ goesOn c = true := by
  refine ⟨?_, ?_, by simp [goesOn, h]⟩
  · simp only [begins, decide_eq_true_eq] at h; simp only [blank, decide_eq_false_iff_not]; omega
  · simp only [begins, decide_eq_true_eq] at h; omega
theorem hd_imp {p q : Nat → Bool} (h : ∀ c, p c = true → q c = false) {a : Cs} (ha : hd p a = true) : hd q a = false := by
  cases a with
  | nil => rfl
  | cons c a => exact h c ha
theorem goes_blank {c : Nat} (h : blank c = true) : goesOn c = false := (blank_ne h).2.2
theorem hd_goes_eq (b y : Cs) (hb : ∀ c ∈ b, blank c = true) : hd goesOn (b ++ 61 :: y) = false := by
  cases b with
  | nil => rfl
  | cons c b => exact goes_blank (hb c (by simp))
theorem attrsGo_ext : ∀ (f : Nat) (xs : Cs) (l : List Attr) (q : Cs), attrsGo f xs = .ok (l, q) →
    ∃ p, xs = p ++ q ∧ (∀ c ∈ p, c ≠ 60) ∧ (∀ c, p.head? = some c → blank c = true) ∧ ∀ (y : Cs) (g : Nat), hd blank y = false → hd begins y = false → p.length < g → ∃ l', attrsGo g (p ++ y) = .ok (l', y) ∧ l'.map Attr.bare = l.map Attr.bare
  | 0, xs, l, q, h => by rw [attrsGo] at h; cases h
  | f + 1, xs, l, q, h => by
    obtain ⟨b, e0, b2, b3⟩ := blanks_ext xs
    rw [attrsGo] at h
    split at h
    · rename_i hc
      rcases h1 : name (blanks xs) with e | ⟨nm, r1⟩
      · rw [h1] at h; cases h
      rw [h1, and_ok] at h
      rcases h2 : takeC 61 (blanks r1) with e | ⟨u, r2⟩
      · rw [h2] at h; cases h
      rw [h2, and_ok] at h
      rcases h3 : value (blanks r2) with e | ⟨v, r3⟩
      · rw [h3] at h; cases h
      rw [h3, and_ok] at h
      rcases h4 : attrsGo f r3 with e | ⟨l', z'⟩
      · rw [h4] at h; cases h
      rw [h4, and_ok] at h
      cases h
      obtain ⟨e1, n2, n3, n4⟩ := name_ext h1
      obtain ⟨c1, e2, c2, c3⟩ := blanks_ext r1
      have e3 := takeC_ext h2
      obtain ⟨d1, e4, d2, d3⟩ := blanks_ext r2
      obtain ⟨p3, e5, v2, ⟨vc, vr, hv, hvq⟩, v4⟩ := value_ext h3
      obtain ⟨p4, e6, a2, -, a4⟩ := attrsGo_ext f r3 l' q h4
      have hb0 : b ≠ [] := by
        rintro rfl
        have := hc.1
        rw [List.nil_append] at e0
        rw [← e0] at this
        omega
      refine ⟨b ++ (nm ++ (c1 ++ (61 :: (d1 ++ (p3 ++ p4))))), ?_, fun x hx => ?_, fun x hx => ?_, fun y g hy1 hy2 hg => ?_⟩
      · rw [e0, e1, e2, e3, e4, e5, e6]; simp
      · simp only [List.mem_append, List.mem_cons] at hx
        rcases hx with hx | hx | hx | rfl | hx | hx | hx
        · exact (blank_ne (b2 x hx)).1
        · exact (goesOn_ne (n2 x hx)).1
        · exact (blank_ne (c2 x hx)).1
        · omega
        · exact (blank_ne (d2 x hx)).1
        · exact v2 x hx
        · exact a2 x hx
      · cases b with
        | nil => exact absurd rfl hb0
        | cons x0 b => simp at hx; subst hx; exact b2 _ (by simp)
      · simp only [List.length_append, List.length_cons] at hg
        obtain ⟨g, rfl⟩ : ∃ k, g = k + 1 := ⟨g - 1, by omega⟩
        obtain ⟨l2, k1, k2⟩ := a4 y g hy1 hy2 (by omega)
        have hne : nm ≠ [] := hd_nil n3
        have s0 : b ++ (nm ++ (c1 ++ (61 :: (d1 ++ (p3 ++ p4))))) ++ y = b ++ (nm ++ (c1 ++ (61 :: (d1 ++ (p3 ++ (p4 ++ y)))))) := by simp
        have s1 : blanks (b ++ (nm ++ (c1 ++ (61 :: (d1 ++ (p3 ++ (p4 ++ y))))))) = nm ++ (c1 ++ (61 :: (d1 ++ (p3 ++ (p4 ++ y))))) := b3 _ (by rw [hd_app hne]; exact hd_imp (fun c hc => (begins_ne hc).1) n3)
        have s2 : name (nm ++ (c1 ++ (61 :: (d1 ++ (p3 ++ (p4 ++ y)))))) = .ok (nm, c1 ++ (61 :: (d1 ++ (p3 ++ (p4 ++ y))))) := n4 _ (hd_goes_eq _ _ c2)
        have s3 : blanks (c1 ++ (61 :: (d1 ++ (p3 ++ (p4 ++ y))))) = 61 :: (d1 ++ (p3 ++ (p4 ++ y))) := c3 _ (by simp [hd, blank])
        have s4 : blanks (d1 ++ (p3 ++ (p4 ++ y))) = p3 ++ (p4 ++ y) := d3 _ (by rw [hv]; simp only [List.cons_append, hd, blank, decide_eq_false_iff_not]; omega)
        have s5 : value (p3 ++ (p4 ++ y)) = .ok (v, p4 ++ y) := v4 _
        refine ⟨⟨nm, v, (nm ++ (c1 ++ (61 :: (d1 ++ (p3 ++ (p4 ++ y)))))).length⟩ :: l2, ?_, ?_⟩
        rw [s0, attrsGo, s1, if_pos ⟨by
          have := List.length_pos_iff.2 hb0
          simp; omega, by rw [hd_app hne]; exact n3⟩, s2, and_ok, s3, takeC_self, and_ok, s4, s5, and_ok, k1, and_ok]
        simp [k2, Attr.bare]
    · rename_i hc
      cases h
      refine ⟨b, e0, fun x hx => (blank_ne (b2 x hx)).1, fun x hx => b2 x (by cases b with | nil => cases hx | cons c b => simp at hx; subst hx; simp), fun y g hy1 hy2 hg => ⟨[], ?_, rfl⟩⟩
      obtain ⟨g, rfl⟩ : ∃ k, g = k + 1 := ⟨g - 1, by omega⟩
      rw [attrsGo, b3 y hy1, if_neg (by rw [hy2]; simp)]
theorem attrs_ext {xs : Cs} {l : List Attr} {q : Cs} (h : attrs xs = .ok (l, q)) :
    ∃ p, xs = p ++ q ∧ (∀ c ∈ p, c ≠ 60) ∧ (∀ c, p.head? = some c → blank c = true) ∧ ∀ (y : Cs), hd blank y = false → hd begins y = false → ∃ l', attrs (p ++ y) = .ok (l', y) ∧ l'.map Attr.bare = l.map Attr.bare := by
  obtain ⟨p, h1, h2, h3, h4⟩ := attrsGo_ext _ _ _ _ h
  exact ⟨p, h1, h2, h3, fun y hy1 hy2 => h4 y _ hy1 hy2 (by simp; omega)⟩
/-- A TAG: what it goes over -/
theorem tag_ext {xs z : Cs} {t : Tok} (hx : hd (fun c => c == 60) xs = true) (h : tag xs = .ok (t, z)) :
    ∃ c r, xs = 60 :: c :: r ++ z ∧ c ≠ 33 ∧ c ≠ 63 ∧ c ≠ 60 ∧ (∀ c ∈ r, c ≠ 60) ∧ ∀ y, ∃ t', tag (60 :: c :: r ++ y) = .ok (t', y) ∧ t'.bare = t.bare := by
  obtain ⟨xs, rfl⟩ : ∃ ys, xs = 60 :: ys := by
    cases xs with
    | nil => cases hx
    | cons c ys => simp [hd] at hx; subst hx; exact ⟨ys, rfl⟩
  unfold tag at h
  split at h
  · rename_i h47
    obtain ⟨xs, rfl⟩ : ∃ ys, xs = 47 :: ys := by
      cases xs with
      | nil => cases h47
      | cons c ys => simp [hd] at h47; subst h47; exact ⟨ys, rfl⟩
    simp only [List.drop_succ_cons, List.drop_zero] at h
    rcases h1 : name xs with e | ⟨nm, r1⟩
    · rw [h1] at h; cases h
    rw [h1, and_ok] at h
    rcases h2 : takeC 62 (blanks r1) with e | ⟨u, r2⟩
    · rw [h2] at h; cases h
    rw [h2, and_ok] at h
    cases h
    obtain ⟨e1, n2, n3, n4⟩ := name_ext h1
    obtain ⟨c1, e2, c2, c3⟩ := blanks_ext r1
    have e3 := takeC_ext h2
    refine ⟨47, nm ++ (c1 ++ [62]), by rw [e1, e2, e3]; simp, by omega, by omega, by omega, fun x hx => ?_, fun y => ⟨⟨2, nm, [], [], (60 :: 47 :: (nm ++ (c1 ++ [62])) ++ y).length, false⟩, ?_, rfl⟩⟩
    · simp only [List.mem_append, List.mem_singleton] at hx
      rcases hx with hx | hx | rfl
      · exact (goesOn_ne (n2 x hx)).1
      · exact (blank_ne (c2 x hx)).1
      · omega
    · have s1 : name (nm ++ (c1 ++ 62 :: y)) = .ok (nm, c1 ++ 62 :: y) := n4 _ (by
        cases c1 with
        | nil => rfl
        | cons c b => exact goes_blank (c2 c (by simp)))
      have s2 : blanks (c1 ++ 62 :: y) = 62 :: y := c3 _ rfl
      unfold tag
      rw [if_pos (by simp [hd])]
      have s0 : (60 :: 47 :: (nm ++ (c1 ++ [62])) ++ y).drop 2 = nm ++ (c1 ++ 62 :: y) := by simp
      rw [s0, s1, and_ok, s2, takeC_self, and_ok]
  · rename_i h47
    simp only [List.drop_succ_cons, List.drop_zero] at h h47
    rcases h1 : name xs with e | ⟨nm, r1⟩
    · rw [h1] at h; cases h
    rw [h1, and_ok] at h
    rcases h2 : attrs r1 with e | ⟨l, r2⟩
    · rw [h2] at h; cases h
    rw [h2, and_ok] at h
    obtain ⟨e1, n2, n3, n4⟩ := name_ext h1
    obtain ⟨p2, e2, a2, a3, a4⟩ := attrs_ext h2
    obtain ⟨c, nr, rfl⟩ : ∃ c nr, nm = c :: nr := by
      cases nm with
      | nil => cases n3
      | cons c nr => exact ⟨c, nr, rfl⟩
    have hcg := n2 c (by simp)
    have hgo : ∀ (d : Nat) (y : Cs), goesOn d = false → hd goesOn (p2 ++ d :: y) = false := fun d y hd' => by
      cases p2 with
      | nil => exact hd'
      | cons c b => exact goes_blank (a3 c rfl)
    split at h
    · rename_i hs
      obtain ⟨r3, rfl⟩ : ∃ ys, r2 = 47 :: ys := by
        cases r2 with
        | nil => cases hs
        | cons c ys => simp [hd] at hs; subst hs; exact ⟨ys, rfl⟩
      simp only [List.drop_succ_cons, List.drop_zero] at h
      rcases h3 : takeC 62 r3 with e | ⟨u, r4⟩
      · rw [h3] at h; cases h
      rw [h3, and_ok] at h
      cases h
      have e3 := takeC_ext h3
      refine ⟨c, nr ++ (p2 ++ [47, 62]), by rw [e1, e2, e3]; simp, (goesOn_ne hcg).2.2.1, (goesOn_ne hcg).2.2.2.1, (goesOn_ne hcg).1, fun x hx => ?_, fun y => ?_⟩
      · simp only [List.mem_append, List.mem_cons, List.not_mem_nil, or_false] at hx
        rcases hx with hx | hx | rfl | rfl
        · exact (goesOn_ne (n2 x (by simp [hx]))).1
        · exact a2 x hx
        · omega
        · omega
      · obtain ⟨l', k1, k2⟩ := a4 (47 :: 62 :: y) rfl rfl
        have s1 := n4 (p2 ++ 47 :: 62 :: y) (hgo 47 _ rfl)
        refine ⟨⟨1, c :: nr, l', [], (60 :: c :: (nr ++ (p2 ++ [47, 62])) ++ y).length, true⟩, ?_, by simp [Tok.bare, k2]⟩
        unfold tag
        rw [if_neg (by simp [hd]; exact (goesOn_ne hcg).2.2.2.2)]
        have s0 : (60 :: c :: (nr ++ (p2 ++ [47, 62])) ++ y).drop 1 = (c :: nr) ++ (p2 ++ 47 :: 62 :: y) := by simp
        rw [s0, s1, and_ok, k1, and_ok, if_pos (by simp [hd])]
        simp only [List.drop_succ_cons, List.drop_zero]
        rw [takeC_self, and_ok]
    · rename_i hs
      rcases h3 : takeC 62 r2 with e | ⟨u, r4⟩
      · rw [h3] at h; cases h
      rw [h3, and_ok] at h
      cases h
      have e3 := takeC_ext h3
      refine ⟨c, nr ++ (p2 ++ [62]), by rw [e1, e2, e3]; simp, (goesOn_ne hcg).2.2.1, (goesOn_ne hcg).2.2.2.1, (goesOn_ne hcg).1, fun x hx => ?_, fun y => ?_⟩
      · simp only [List.mem_append, List.mem_cons, List.not_mem_nil, or_false] at hx
        rcases hx with hx | hx | rfl
        · exact (goesOn_ne (n2 x (by simp [hx]))).1
        · exact a2 x hx
        · omega
      · obtain ⟨l', k1, k2⟩ := a4 (62 :: y) rfl rfl
        have s1 := n4 (p2 ++ 62 :: y) (hgo 62 _ rfl)
        refine ⟨⟨1, c :: nr, l', [], (60 :: c :: (nr ++ (p2 ++ [62])) ++ y).length, false⟩, ?_, by simp [Tok.bare, k2]⟩
        unfold tag
        rw [if_neg (by simp [hd]; exact (goesOn_ne hcg).2.2.2.2)]
        have s0 : (60 :: c :: (nr ++ (p2 ++ [62])) ++ y).drop 1 = (c :: nr) ++ (p2 ++ 62 :: y) := by simp
        rw [s0, s1, and_ok, k1, and_ok, if_neg (by simp [hd]), takeC_self, and_ok]
/-- UP TO A TEXT -/
theorem until_ext (t : List Nat) (ht : t ≠ []) : ∀ (xs a q : Cs), untilT t xs = .ok (a, q) → xs = a ++ (t ++ q) ∧ ∀ y, untilT t (a ++ (t ++ y)) = .ok (a, y)
  | [], a, q, h => by unfold untilT at h; cases h
  | x :: r, a, q, h => by
    unfold untilT at h
    split at h
    · rename_i hp
      cases h
      refine ⟨by rw [List.nil_append]; exact pre_split hp, fun y => ?_⟩
      rw [List.nil_append]
      cases t with
      | nil => exact absurd rfl ht
      | cons c t =>
        show untilT (c :: t) (c :: (t ++ y)) = _
        unfold untilT
        have := pre_self (c :: t) y
        rw [List.cons_append] at this
        rw [if_pos this]
        congr 2
        rw [← List.cons_append, List.drop_left]
    · rename_i hp
      rcases hr : untilT t r with e | ⟨a', z⟩
      · rw [hr] at h; cases h
      rw [hr, and_ok] at h
      cases h
      obtain ⟨i1, i2⟩ := until_ext t ht r a' q hr
      refine ⟨by rw [i1]; rfl, fun y => ?_⟩
      rw [List.cons_append]
      unfold untilT
      have e : pre t (x :: (a' ++ (t ++ y))) = pre t (x :: r) := by
        rw [i1]
        have := pre_same (t := t) (a := x :: (a' ++ t)) y q (by simp; omega)
        simpa using this
      rw [e, if_neg hp, i2 y, and_ok]
theorem comment_ext {xs q : Cs} {u : Unit} (hx : pre [60, 33, 45, 45] xs = true) (h : comment xs = .ok (u, q)) : ∃ p, xs = p ++ q ∧ 62 ∈ p ∧ pre [60, 33, 45, 45] p = true ∧ ∀ y, comment (p ++ y) = .ok ((), y) := by
  have hs := pre_split hx
  simp only [List.length_cons, List.length_nil] at hs
  unfold comment at h
  rcases hu : untilT [45, 45] (xs.drop 4) with e | ⟨a, z⟩
  · rw [hu] at h; cases h
  rw [hu, and_ok] at h
  obtain ⟨i1, i2⟩ := until_ext _ (by simp) _ _ _ hu
  split at h
  · cases h
  · rename_i c z'
    split at h
    · rename_i hc
      subst hc
      cases h
      refine ⟨[60, 33, 45, 45] ++ (a ++ [45, 45, 62]), ?_, by simp, by simp [pre], fun y => ?_⟩
      · conv => lhs; rw [hs, i1]
        simp
      · unfold comment
        have s0 : ([60, 33, 45, 45] ++ (a ++ [45, 45, 62]) ++ y).drop 4 = a ++ ([45, 45] ++ (62 :: y)) := by simp
        rw [s0, i2 (62 :: y), and_ok]
        simp
    · cases h
theorem instr_ext {xs q : Cs} {u : Unit} (hx : pre [60, 63] xs = true) (h : instr xs = .ok (u, q)) : ∃ p, xs = p ++ q ∧ 62 ∈ p ∧ pre [60, 63] p = true ∧ ∀ y, instr (p ++ y) = .ok ((), y) := by
  have hs := pre_split hx
  simp only [List.length_cons, List.length_nil] at hs
  unfold instr at h
  rcases hn : name (xs.drop 2) with e | ⟨nm, r⟩
  · rw [hn] at h; cases h
  rw [hn, and_ok] at h
  obtain ⟨e1, n2, n3, n4⟩ := name_ext hn
  split at h
  · cases h
  rename_i hxml
  split at h
  · rename_i hp
    cases h
    have hr := pre_split hp
    simp only [List.length_cons, List.length_nil] at hr
    refine ⟨[60, 63] ++ (nm ++ [63, 62]), ?_, by simp, by simp [pre], fun y => ?_⟩
    · conv => lhs; rw [hs, e1, hr]
      simp
    · have s1 := n4 (63 :: 62 :: y) rfl
      unfold instr
      have s0 : ([60, 63] ++ (nm ++ [63, 62]) ++ y).drop 2 = nm ++ (63 :: 62 :: y) := by simp
      rw [s0, s1, and_ok, if_neg hxml, if_pos (by simp [pre])]
      rfl
  rename_i hp
  split at h
  · rename_i hb
    rcases hu : untilT [63, 62] r with e | ⟨a, z⟩
    · rw [hu] at h; cases h
    rw [hu, and_ok] at h
    cases h
    obtain ⟨i1, i2⟩ := until_ext _ (by simp) _ _ _ hu
    refine ⟨[60, 63] ++ (nm ++ (a ++ [63, 62])), ?_, by simp, by simp [pre], fun y => ?_⟩
    · conv => lhs; rw [hs, e1, i1]
      simp
    · have hb' : hd blank (a ++ (63 :: 62 :: y)) = true := by
        rw [i1] at hb
        cases a with
        | nil => simp [hd, blank] at hb
        | cons c a => exact hb
      have s1 := n4 (a ++ (63 :: 62 :: y)) (by
        cases a with
        | nil => rfl
        | cons c a => exact goes_blank hb')
      unfold instr
      have s0 : ([60, 63] ++ (nm ++ (a ++ [63, 62])) ++ y).drop 2 = nm ++ (a ++ (63 :: 62 :: y)) := by simp
      have hp' : pre [63, 62] (a ++ (63 :: 62 :: y)) = false := by
        cases a with
        | nil => simp [hd, blank] at hb'
        | cons c a =>
          have : c ≠ 63 := by
            intro e; subst e; simp [hd, blank] at hb'
          simp [pre, this]
      have s2 := i2 y
      simp only [List.cons_append, List.nil_append] at s2
      rw [s0, s1, and_ok, if_neg hxml, hp', if_neg (by simp), if_pos hb', s2, and_ok]
  · cases h
theorem chunkGo_ext : ∀ (f : Nat) (xs t q : Cs), chunkGo f xs = .ok (t, q) → ∃ p, xs = p ++ q ∧ (∀ c ∈ p, c ≠ 60) ∧ (q = [] ∨ hd (fun c => c == 60) q = true) ∧ ∀ (y : Cs) (g : Nat), (hd (fun c => c == 60) y = true ∨ y = q) → p.length < g → chunkGo g (p ++ y) = .ok (t, y)
  | 0, xs, t, q, h => by rw [chunkGo] at h; cases h
  | f + 1, [], t, q, h => by
    rw [chunkGo] at h; cases h
    refine ⟨[], rfl, (fun c hc => by cases hc), .inl rfl, fun y g hy hg => ?_⟩
    obtain ⟨g, rfl⟩ : ∃ k, g = k + 1 := ⟨g - 1, by omega⟩
    rcases hy with hy | rfl
    · cases y with
      | nil => cases hy
      | cons c y => simp [hd] at hy; subst hy; show chunkGo (g + 1) (60 :: y) = _; rw [chunkGo, if_pos rfl]
    · show chunkGo (g + 1) [] = _
      rw [chunkGo]
  | f + 1, c :: r, t, q, h => by
    rw [chunkGo] at h
    split at h
    · rename_i hc
      subst hc
      cases h
      refine ⟨[], rfl, (fun c hc => by cases hc), .inr rfl, fun y g hy hg => ?_⟩
      obtain ⟨g, rfl⟩ : ∃ k, g = k + 1 := ⟨g - 1, by omega⟩
      rcases hy with hy | rfl
      · cases y with
        | nil => cases hy
        | cons c y => simp [hd] at hy; subst hy; show chunkGo (g + 1) (60 :: y) = _; rw [chunkGo, if_pos rfl]
      · show chunkGo (g + 1) (60 :: r) = _
        rw [chunkGo, if_pos rfl]
    rename_i hc
    split at h
    · cases h
    rename_i hp
    have hpre : ∀ (p' y : Cs), c :: r = p' ++ q → p' ≠ [] → (hd (fun c => c == 60) y = true ∨ y = q) → pre [93, 93, 62] (p' ++ y) = false := by
      intro p' y e hne hy
      rcases hy with hy | rfl
      · rcases y with _ | ⟨y0, y⟩
        · cases hy
        simp [hd] at hy; subst hy
        rw [e] at hp
        match p', hne with
        | [a], _ => simp [pre]
        | [a, b], _ => simp [pre]
        | a :: b :: d :: p', _ => simpa [pre] using hp
      · rw [← e]; simpa using hp
    split at h
    · rename_i h38
      rcases hr : reference (c :: r) with e | ⟨v, z⟩
      · rw [hr] at h; cases h
      rw [hr, and_ok] at h
      rcases hg : chunkGo f z with e | ⟨a, w⟩
      · rw [hg] at h; cases h
      rw [hg, and_ok] at h
      cases h
      obtain ⟨p1, i1, i2, i3⟩ := ref_ext hr
      obtain ⟨p2, j1, j2, j3, j4⟩ := chunkGo_ext f z a q hg
      refine ⟨38 :: p1 ++ p2, by rw [i1, j1, List.append_assoc], fun x hx => ?_, j3, fun y g hy hg => ?_⟩
      · rcases List.mem_append.1 hx with hx | hx
        · rcases List.mem_cons.1 hx with rfl | hx
          · omega
          · exact (i2 x hx).1
        · exact j2 x hx
      · simp only [List.length_append, List.length_cons] at hg
        obtain ⟨g, rfl⟩ : ∃ k, g = k + 1 := ⟨g - 1, by omega⟩
        have hp2 := hpre (38 :: p1 ++ p2) y (by rw [i1, j1, List.append_assoc]) (by simp) hy
        have e := i3 (p2 ++ y)
        rw [List.append_assoc] at hp2 ⊢
        rw [List.cons_append] at e hp2 ⊢
        rw [chunkGo, if_neg (by omega), hp2, if_neg (by simp), if_pos rfl, e, and_ok, j4 y g hy (by omega), and_ok]
    · rename_i h38
      rcases hg : chunkGo f r with e | ⟨a, w⟩
      · rw [hg] at h; cases h
      rw [hg, and_ok] at h
      cases h
      obtain ⟨p2, j1, j2, j3, j4⟩ := chunkGo_ext f r a q hg
      refine ⟨c :: p2, by rw [j1]; rfl, fun x hx => ?_, j3, fun y g hy hg => ?_⟩
      · rcases List.mem_cons.1 hx with rfl | hx
        · exact hc
        · exact j2 x hx
      · simp only [List.length_cons] at hg
        obtain ⟨g, rfl⟩ : ∃ k, g = k + 1 := ⟨g - 1, by omega⟩
        have hp2 := hpre (c :: p2) y (by rw [j1]; rfl) (by simp) hy
        rw [List.cons_append] at hp2 ⊢
        rw [chunkGo, if_neg hc, hp2, if_neg (by simp), if_neg h38, j4 y g hy (by omega), and_ok]
end Tk
end Go.Proofs.YtaknfofppknloaaDoor
