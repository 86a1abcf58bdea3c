/- Layer 5, in plain words: where lexemes stand. -/
import Derived.Test.YtepmneongpbglaaGreatDoorLxPure3
namespace Go.Proofs.YtepmneongpbglaaGreatDoor
open Go Go.RowKit
set_option linter.all false
namespace Lx
theorem chr_end {l : List UInt8} {i : Nat} (h : (chr l i).2 ≠ 0) : i + (chr l i).2 ≤ l.length := by
  have hN : ∀ n c low, (chrN l i n c low).2 ≠ 0 → i + (chrN l i n c low).2 ≤ l.length := fun n c low g => by
    unfold chrN at g ⊢
    split
    · rename_i q; exact q.1
    · rename_i q; rw [if_neg q] at g; exact absurd rfl g
  unfold chr at h ⊢
  split
  · rename_i q; rw [if_pos q] at h; exact absurd rfl h
  · rename_i q
    rw [if_neg q] at h
    split
    · simp only; omega
    · rename_i q1; rw [if_neg q1] at h
      split
      · rename_i q2; rw [if_pos q2] at h; exact hN _ _ _ h
      · rename_i q2; rw [if_neg q2] at h
        split
        · rename_i q3; rw [if_pos q3] at h; exact hN _ _ _ h
        · rename_i q3; rw [if_neg q3] at h
          split
          · rename_i q4; rw [if_pos q4] at h; exact hN _ _ _ h
          · rename_i q4; rw [if_neg q4] at h; exact absurd rfl h
theorem lineGo_le (l : List UInt8) : ∀ (f i j : Nat), lineGo l f i = .ok j → i ≤ l.length → i ≤ j ∧ j ≤ l.length
  | 0, i, j, h, hi => by rw [lineGo] at h; cases h; omega
  | f + 1, i, j, h, hi => by
    rw [lineGo] at h
    split at h
    · split at h
      · cases h
      · rename_i hn
        split at h
        · cases h; omega
        · have := lineGo_le l f _ j h (chr_end hn)
          omega
    · cases h; omega
theorem skipGo_le (l : List UInt8) : ∀ (f i j : Nat) (a b : Bool), skipGo l f i a = .ok (j, b) → i ≤ l.length → i ≤ j ∧ j ≤ l.length
  | 0, i, j, a, b, h, hi => by rw [skipGo] at h; cases h; omega
  | f + 1, i, j, a, b, h, hi => by
    rw [skipGo] at h
    split at h
    · split at h
      · cases h
      rename_i hn
      have hc := chr_end hn
      split at h
      · have := skipGo_le l f _ j _ b h hc; omega
      split at h
      · have := skipGo_le l f _ j _ b h hc; omega
      split at h
      · split at h
        · cases h
        · rename_i k hk
          have h1 := lineGo_le l _ _ _ hk hi
          have := skipGo_le l f _ j _ b h h1.2
          omega
      split at h
      · split at h
        · cases h
        · rename_i k hk
          have h1 := (idx_lt _ _ hk).2.1
          rw [List.length_drop] at h1
          simp only [List.length_cons, List.length_nil] at h1
          split at h
          · cases h
          · have := skipGo_le l f _ j _ b h (by omega)
            omega
      · cases h; omega
    · cases h; omega
theorem runGo_le (p : Nat → Bool) : ∀ xs : List UInt8, runGo p xs ≤ xs.length
  | [] => Nat.le_refl _
  | b :: r => by
    rw [runGo]
    split
    · have := runGo_le p r; simp; omega
    · omega
theorem run_le (p : Nat → Bool) (l : List UInt8) (i : Nat) : i ≤ run p l i ∧ (i ≤ l.length → run p l i ≤ l.length) := by
  have := runGo_le p (l.drop i)
  rw [List.length_drop] at this
  unfold run
  omega
theorem by8_ge {l : List UInt8} {i : Nat} (h : l.length ≤ i) : by8 l i = 0 := by simp [by8, List.getD_eq_getElem?_getD, List.getElem?_eq_none h]
theorem at_lt {l : List UInt8} {i : Nat} (h : by8 l i ≠ 0) : i < l.length := by
  rcases Nat.lt_or_ge i l.length with g | g
  · exact g
  · exact absurd (by8_ge g) h
theorem run_pos {p : Nat → Bool} {l : List UInt8} {i : Nat} (hi : i < l.length) (h : p (by8 l i) = true) : i < run p l i := by
  have e : l.drop i = UInt8.ofNat (by8 l i) :: l.drop (i + 1) := by
    rw [List.drop_eq_getElem_cons hi]
    congr 1
    simp [by8, List.getD_eq_getElem?_getD, List.getElem?_eq_getElem hi]
  have hb := by8_lt l i
  have e2 : (UInt8.ofNat (by8 l i)).toNat = by8 l i := by rw [UInt8.toNat_ofNat']; omega
  unfold run
  rw [e, runGo, e2, if_pos h]
  omega
theorem ptd_le {l : List UInt8} {a : Nat} (h : a ≤ l.length) : a ≤ ptd l a ∧ ptd l a ≤ l.length := by
  unfold ptd
  split
  · rename_i g
    have : a < l.length := at_lt (by omega)
    have := run_le digit l (a + 1)
    omega
  · omega
theorem sgn_le {l : List UInt8} {a : Nat} (h : a ≤ l.length) : a ≤ sgn l a ∧ sgn l a ≤ l.length := by
  unfold sgn
  split
  · rename_i g
    have : a < l.length := at_lt (by omega)
    omega
  · omega
theorem numEnd_le {l : List UInt8} {i e : Nat} (h : numEnd l i = some e) (hi : i < l.length) : i ≤ e ∧ e ≤ l.length := by
  unfold numEnd at h
  have ra := run_le digit l i
  have rb := ptd_le (l := l) (a := run digit l i) (by omega)
  split at h
  · rename_i q
    split at h
    · cases h
    · cases h
      have := run_le sixteen l (i + 2)
      omega
  split at h
  · cases h
  split at h
  · rename_i q
    split at h
    · cases h
    · cases h
      have : ptd l (run digit l i) < l.length := at_lt (by omega)
      have := sgn_le (l := l) (a := ptd l (run digit l i) + 1) (by omega)
      have := run_le digit l (sgn l (ptd l (run digit l i) + 1))
      omega
  · cases h; omega
theorem run_no {p : Nat → Bool} {l : List UInt8} {i : Nat} (h : p (by8 l i) = false) (hp : p 0 = false) : run p l i = i := by
  unfold run
  rcases Nat.lt_or_ge i l.length with hi | hi
  · have hb := by8_lt l i
    have e : l.drop i = UInt8.ofNat (by8 l i) :: l.drop (i + 1) := by
      rw [List.drop_eq_getElem_cons hi]
      congr 1
      simp [by8, List.getD_eq_getElem?_getD, List.getElem?_eq_getElem hi]
    have e2 : (UInt8.ofNat (by8 l i)).toNat = by8 l i := by rw [UInt8.toNat_ofNat']; omega
    rw [e, runGo, e2, if_neg (by rw [h]; simp)]
    rfl
  · rw [List.drop_of_length_le hi]; rfl
theorem numEnd_gt {l : List UInt8} {i e : Nat} (h : numEnd l i = some e) (hi : i < l.length) (hd : (digit (by8 l i) || (by8 l i == 46 && digit (by8 l (i + 1)))) = true) : i < e := by
  unfold numEnd at h
  have ra := run_le digit l i
  have rb := ptd_le (l := l) (a := run digit l i) (by omega)
  have hb : i < ptd l (run digit l i) := by
    rcases hq : digit (by8 l i) with _ | _
    · rw [hq] at hd
      simp only [Bool.false_or, Bool.and_eq_true, beq_iff_eq] at hd
      rw [run_no hq (by decide)]
      unfold ptd
      rw [if_pos hd.1]
      have := run_le digit l (i + 1)
      omega
    · have := run_pos hi hq
      omega
  split at h
  · split at h
    · cases h
    · cases h
      have := run_le sixteen l (i + 2)
      omega
  split at h
  · cases h
  split at h
  · rename_i q
    split at h
    · cases h
    · cases h
      have : ptd l (run digit l i) < l.length := at_lt (by omega)
      have := sgn_le (l := l) (a := ptd l (run digit l i) + 1) (by omega)
      have := run_le digit l (sgn l (ptd l (run digit l i) + 1))
      omega
  · cases h; exact hb
theorem hexGo_le (l : List UInt8) : ∀ (n i u v j : Nat), hexGo l n i u = some (v, j) → i ≤ l.length → i ≤ j ∧ j ≤ l.length
  | 0, i, u, v, j, h, hi => by rw [hexGo] at h; cases h; omega
  | n + 1, i, u, v, j, h, hi => by
    rw [hexGo] at h
    split at h
    · rename_i q
      have : i < l.length := at_lt (fun e => by rw [e] at q; exact absurd q (by decide))
      have := hexGo_le l n _ _ _ _ h (by omega)
      omega
    · cases h
theorem escape_le {l : List UInt8} {i j : Nat} {t : List UInt8} (h : escape l i = some (t, j)) : i ≤ j ∧ j ≤ l.length := by
  unfold escape at h
  simp only at h
  split at h
  · cases h
  rename_i hn
  have hc := chr_end hn
  split at h
  · cases h; omega
  split at h
  · obtain ⟨x, hx, e⟩ := Option.map_eq_some_iff.1 h
    cases e
    have := hexGo_le l _ _ _ x.1 x.2 hx hc
    omega
  split at h
  · obtain ⟨x, hx, e⟩ := Option.map_eq_some_iff.1 h
    cases e
    have := hexGo_le l _ _ _ x.1 x.2 hx hc
    omega
  split at h
  · split at h
    · cases h
    · cases h; omega
  split at h
  · cases h
  split at h
  · rename_i q
    cases h
    have := at_lt (l := l) (i := i + (chr l i).2) (by omega)
    omega
  split at h
  · cases h; omega
  · cases h; omega
theorem quoteGo_le (l : List UInt8) (m : Nat) : ∀ (f i j : Nat) (t : List UInt8), quoteGo l m f i = some (t, j) → i ≤ j ∧ j ≤ l.length
  | 0, i, j, t, h => by rw [quoteGo] at h; cases h
  | f + 1, i, j, t, h => by
    rw [quoteGo] at h
    split at h
    · cases h
    rename_i hn
    have hc := chr_end (l := l) (i := i) (fun e => hn (.inl e))
    split at h
    · cases h; omega
    split at h
    · obtain ⟨x, hx, h2⟩ := Option.bind_eq_some_iff.1 h
      obtain ⟨y, hy, e⟩ := Option.map_eq_some_iff.1 h2
      cases e
      have h3 := escape_le (t := x.1) (j := x.2) hx
      have h4 := quoteGo_le l m f _ y.2 y.1 hy
      omega
    · obtain ⟨y, hy, e⟩ := Option.map_eq_some_iff.1 h
      cases e
      have h4 := quoteGo_le l m f _ y.2 y.1 hy
      omega
def named (x : Lx) : Nat := if x.kind = 3 ∨ x.kind = 4 then 0 else x.text.length
theorem marks_ne : ∀ m ∈ marks, m ≠ [] := by decide
/-- what is right of a lexeme and the place behind it -/
theorem one_ok {C : List UInt8 → Bool} {l : List UInt8} {i k : Nat} {ln : Bool} {x : Lx} (h : one C l i ln = .ok (x, k)) (hi : i < l.length) :
    x.at_ = i ∧ i + max 1 (named x) ≤ k ∧ k ≤ l.length ∧ (0 < named x → sub l i (i + named x) = x.text) ∧ x.line = ln := by
  unfold one at h
  split at h
  · rename_i q
    have r1 := run_pos (p := fun b => letter b || digit b) hi (by simp [q])
    have r2 := (run_le (fun b => letter b || digit b) l i).2 (by omega)
    simp only at h
    obtain ⟨e, he⟩ : ∃ e, run (fun b => letter b || digit b) l i = e := ⟨_, rfl⟩
    rw [he] at h r1 r2
    have hl : (sub l i e).length = e - i := by rw [length_sub]; omega
    obtain ⟨hx, hk⟩ := Prod.mk.inj (Except.ok.inj h)
    subst hx
    rw [← hk]
    have hn : named ⟨if word (sub l i e) = true then 2 else 1, sub l i e, [], i, ln⟩ = e - i := by
      unfold named
      rw [if_neg (by show ¬ ((if word (sub l i e) = true then 2 else 1) = 3 ∨ (if word (sub l i e) = true then 2 else 1) = 4); split <;> omega)]
      exact hl
    rw [hn]
    exact ⟨rfl, by omega, by omega, fun _ => by rw [show i + (e - i) = e by omega], rfl⟩
  split at h
  · rename_i q0 q
    split at h
    · cases h
    · rename_i e he
      split at h
      · cases h
        have hne : numEnd l i = some k := by
          unfold numeral at he
          obtain ⟨y, hy, h2⟩ := Option.bind_eq_some_iff.1 he
          split at h2
          · cases h2
          · cases h2; exact hy
        have h1 := numEnd_le hne hi
        have h2 := numEnd_gt hne hi q
        exact ⟨rfl, by simp only [named]; simp; omega, h1.2, fun g => by simp [named] at g, rfl⟩
      · cases h
  split at h
  · split at h
    · cases h
    · rename_i t e he
      cases h
      have h1 := quoteGo_le l _ _ _ _ _ he
      exact ⟨rfl, by simp only [named]; simp; omega, h1.2, fun g => by simp [named] at g, rfl⟩
  · split at h
    · cases h
    · rename_i m hm
      cases h
      have h1 := List.find?_some hm
      have h2 := marks_ne m (List.mem_of_find?_eq_some hm)
      have h3 := List.isPrefixOf_iff_prefix.1 h1
      have h4 := h3.length_le
      rw [List.length_drop] at h4
      have h5 := List.length_pos_iff.2 h2
      have hn : named ⟨5, m, [], i, ln⟩ = m.length := rfl
      rw [hn]
      refine ⟨rfl, by omega, by omega, fun _ => ?_, rfl⟩
      have h6 := List.prefix_iff_eq_take.1 h3
      unfold sub
      rw [show i + m.length - i = m.length by omega]
      exact h6.symm
/-- lexemes rise -/
def Cov (l : List UInt8) : Nat → List Lx → Prop
  | _, [] => True
  | lo, x :: r => lo ≤ x.at_ ∧ x.at_ < l.length ∧ (0 < named x → x.at_ + named x ≤ l.length ∧ sub l x.at_ (x.at_ + named x) = x.text) ∧ Cov l (x.at_ + max 1 (named x)) r
theorem Cov.mono {l : List UInt8} {a b : Nat} {xs : List Lx} (h : Cov l b xs) (hab : a ≤ b) : Cov l a xs := by
  cases xs with
  | nil => trivial
  | cons x r => exact ⟨Nat.le_trans hab h.1, h.2⟩
theorem lexGo_cov (C : List UInt8 → Bool) (l : List UInt8) : ∀ (f i : Nat) (xs : List Lx), lexGo C l f i = some (.ok xs) → i ≤ l.length → Cov l i xs
  | 0, i, xs, h, _ => by rw [lexGo] at h; cases h
  | f + 1, i, xs, h, hi => by
    rw [lexGo] at h
    split at h
    · cases h
    · rename_i j ln hs
      have h1 := skipGo_le l _ _ _ _ _ hs hi
      split at h
      · cases h; trivial
      · rename_i hj
        split at h
        · cases h
        · cases h
        · rename_i x k ho
          obtain ⟨a1, a2, a3, a4, -⟩ := one_ok ho (by omega)
          obtain ⟨r, hr, e⟩ := Option.map_eq_some_iff.1 h
          cases r with
          | error e' => cases e
          | ok r =>
            cases e
            have ih := lexGo_cov C l f k r hr a3
            exact ⟨by omega, by omega, fun g => ⟨by omega, by rw [a1]; exact a4 g⟩, ih.mono (by omega)⟩
end Lx
end Go.Proofs.YtepmneongpbglaaGreatDoor
