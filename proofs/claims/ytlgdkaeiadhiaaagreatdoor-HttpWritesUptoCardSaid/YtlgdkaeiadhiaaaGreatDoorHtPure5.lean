/- Parts, places and ends in the words of Go's library. No program in sight. -/
import Derived.Test.YtlgdkaeiadhiaaaGreatDoorHtPure4
import Derived.Lib.SplitLaws
import Derived.Lib.SlTrimSet
namespace Go.Proofs.YtlgdkaeiadhiaaaGreatDoor
open Go Go.RowKit
set_option linter.all false
/-- the number that says where a text stands -/
def at' (o : Option Nat) : Int := match o with
  | none => -1
  | some k => k
theorem index_idx (t : Bytes) : ∀ l : Bytes, Lib.index l t = at' (idx t l)
  | [] => by
    rw [Lib.index, idx]
    cases t <;> rfl
  | b :: r => by
    rw [Lib.index, idx, index_idx t r]
    by_cases h : t <+: b :: r
    · rw [if_pos h, if_pos (List.isPrefixOf_iff_prefix.2 h)]; rfl
    · rw [if_neg h, if_neg (fun e => h (List.isPrefixOf_iff_prefix.1 e))]
      cases hi : idx t r with
      | none => rfl
      | some k =>
        have : ((k : Int) == -1) = false := by rw [beq_eq_false_iff_ne]; omega
        simp [at', this]
theorem pcs_cons_hit {t : Bytes} (ht : t ≠ []) {c : UInt8} {r : Bytes} (h : t <+: c :: r) : pcs t (c :: r) = [] :: pcs t ((c :: r).drop t.length) := by
  rw [pcs, dif_pos ⟨ht, h⟩]
theorem pcs_cons_miss {t : Bytes} {c : UInt8} {r : Bytes} (h : ¬ t <+: c :: r) : pcs t (c :: r) = (c :: (pcs t r).headD []) :: (pcs t r).tail := by
  rw [pcs, dif_neg (fun e => h e.2)]
theorem pcs_idx_none {t : Bytes} (ht : t ≠ []) : ∀ l : Bytes, idx t l = none → pcs t l = [l]
  | [], _ => by rw [pcs]
  | b :: r, h => by
    rw [idx] at h
    split at h
    · cases h
    · rename_i hn
      have h' : idx t r = none := by simpa using h
      rw [pcs_cons_miss hn, pcs_idx_none ht r h']
      rfl
theorem pcs_idx_some {t : Bytes} (ht : t ≠ []) : ∀ (l : Bytes) (k : Nat), idx t l = some k → pcs t l = l.take k :: pcs t (l.drop (k + t.length))
  | [], k, h => by
    rw [idx, if_neg ht] at h
    cases h
  | b :: r, k, h => by
    rw [idx] at h
    split at h
    · rename_i hp
      obtain rfl := Option.some.inj h
      rw [pcs_cons_hit ht hp, Nat.zero_add]
      rfl
    · rename_i hn
      cases hi : idx t r with
      | none => rw [hi] at h; cases h
      | some j =>
        rw [hi] at h
        obtain rfl : j + 1 = k := by simpa using h
        rw [pcs_cons_miss hn, pcs_idx_some ht r j hi]
        rw [show j + 1 + t.length = (j + t.length) + 1 by omega, List.drop_succ_cons]
        rfl
theorem split_pcs {t : Bytes} (ht : t ≠ []) : ∀ (n : Nat) (l : Bytes), l.length ≤ n → Lib.split l t = pcs t l := by
  intro n
  induction n with
  | zero =>
    intro l h
    obtain rfl : l = [] := List.length_eq_zero_iff.1 (by omega)
    have e : idx t [] = none := by rw [idx, if_neg ht]
    have : Lib.index [] t = -1 := by rw [index_idx, e]; rfl
    rw [pcs_idx_none ht [] e, Lib.split, Lib.count_miss this]
    rfl
  | succ n ih =>
    intro l h
    cases hi : idx t l with
    | none =>
      have : Lib.index l t = -1 := by rw [index_idx, hi]; rfl
      rw [pcs_idx_none ht l hi, Lib.split, Lib.count_miss this]
      rfl
    | some k =>
      have h3 : Lib.index l t = k := by rw [index_idx, hi]; rfl
      have hb := idx_bound hi
      have hpos : 0 < t.length := List.length_pos_iff.2 ht
      rw [pcs_idx_some ht l k hi, ← ih (l.drop (k + t.length)) (by rw [List.length_drop]; omega), Lib.split, Lib.count_hit ht h3, Nat.add_comm, Lib.splitK, if_neg (by rw [h3, beq_iff_eq]; omega), h3]
      rfl
/-! ### both ends -/
theorem rev_dw_cons (p : UInt8 → Bool) (c : UInt8) (r : Bytes) : ((c :: r).reverse.dropWhile p).reverse = if p c = true ∧ r.all p = true then [] else c :: (r.reverse.dropWhile p).reverse := by
  rw [List.reverse_cons]
  by_cases hr : r.all p = true
  · have h1 : ∀ x ∈ r.reverse, p x = true := fun x hx => List.all_eq_true.1 hr x (List.mem_reverse.1 hx)
    have h2 : r.reverse.dropWhile p = [] := by
      have := List.dropWhile_append_of_pos h1 (l₂ := [])
      simpa using this
    rw [List.dropWhile_append_of_pos h1, h2]
    by_cases hc : p c = true
    · rw [if_pos ⟨hc, hr⟩]; simp [hc]
    · rw [if_neg (fun h => hc h.1)]; simp [hc]
  · rw [if_neg (fun h => hr h.2)]
    rw [List.dropWhile_append]
    have : (r.reverse.dropWhile p).isEmpty = false := by
      cases he : r.reverse.dropWhile p with
      | cons x y => rfl
      | nil =>
        exfalso
        apply hr
        rw [List.all_eq_true]
        intro x hx
        have e := List.takeWhile_append_dropWhile (p := p) (l := r.reverse)
        rw [he, List.append_nil] at e
        have hx' : x ∈ r.reverse.takeWhile p := by rw [e]; exact List.mem_reverse.2 hx
        have hall := List.all_takeWhile (p := p) (l := r.reverse)
        exact List.all_eq_true.1 hall x hx'
    rw [if_neg (by rw [this]; simp)]
    simp
theorem ends_comm (p : UInt8 → Bool) : ∀ l : Bytes, (l.reverse.dropWhile p).reverse.dropWhile p = ((l.dropWhile p).reverse.dropWhile p).reverse
  | [] => rfl
  | c :: r => by
    rw [rev_dw_cons]
    by_cases hc : p c = true
    · rw [List.dropWhile_cons, if_pos hc, ← ends_comm p r]
      by_cases hr : r.all p = true
      · rw [if_pos ⟨hc, hr⟩]
        have h1 : ∀ x ∈ r.reverse, p x = true := fun x hx => List.all_eq_true.1 hr x (List.mem_reverse.1 hx)
        have h2 : r.reverse.dropWhile p = [] := by
          have := List.dropWhile_append_of_pos h1 (l₂ := [])
          simpa using this
        rw [h2]
        rfl
      · rw [if_neg (fun h => hr h.2), List.dropWhile_cons, if_pos hc]
    · rw [if_neg (fun h => hc h.1), List.dropWhile_cons, if_neg hc, List.dropWhile_cons, if_neg hc, rev_dw_cons, if_neg (fun h => hc h.1)]
theorem trimS_comm (l cs : Bytes) : Lib.trimS l cs = ((l.dropWhile (cs.contains ·)).reverse.dropWhile (cs.contains ·)).reverse := by
  unfold Lib.trimS Lib.trimLeftS Lib.trimRightS
  exact ends_comm _ l
theorem trimS_trim (l : Bytes) : Lib.trimS l [32, 9] = trim l := by
  rw [trimS_comm]
  have : (fun x : UInt8 => ([32, 9] : Bytes).contains x) = blankB := by
    funext x
    have H : ∀ b : Fin 256, ([32, 9] : Bytes).contains (UInt8.ofNat b.val) = blankB (UInt8.ofNat b.val) := by decide +kernel
    have := H ⟨x.toNat, UInt8.toNat_lt x⟩
    simpa only [UInt8.ofNat_toNat] using this
  rw [this]
  rfl
def dmarks : Bytes := [48, 49, 50, 51, 52, 53, 54, 55, 56, 57]
theorem dmarks_dig (c : UInt8) : dmarks.contains c = digB c := by
  have H : ∀ b : Fin 256, dmarks.contains (UInt8.ofNat b.val) = digB (UInt8.ofNat b.val) := by decide +kernel
  have := H ⟨c.toNat, UInt8.toNat_lt c⟩
  simpa using this
theorem dw_nil_iff (p : UInt8 → Bool) : ∀ l : Bytes, l.dropWhile p = [] ↔ l.all p = true
  | [] => by simp
  | c :: r => by
    by_cases hc : p c = true
    · rw [List.dropWhile_cons, if_pos hc, dw_nil_iff p r, List.all_cons, hc, Bool.true_and]
    · rw [List.dropWhile_cons, if_neg hc, List.all_cons]
      simp [hc]
theorem dw_first (p : UInt8 → Bool) : ∀ l : Bytes, l.dropWhile p = [] ∨ ∃ c r, l.dropWhile p = c :: r ∧ p c = false
  | [] => .inl rfl
  | c :: r => by
    by_cases hc : p c = true
    · rw [List.dropWhile_cons, if_pos hc]; exact dw_first p r
    · rw [List.dropWhile_cons, if_neg hc]; exact .inr ⟨c, r, rfl, by simpa using hc⟩
theorem trimS_nil (l cs : Bytes) : Lib.trimS l cs = [] ↔ l.all (cs.contains ·) = true := by
  rw [trimS_comm]
  constructor
  · intro h
    have h1 : (l.dropWhile (cs.contains ·)).reverse.dropWhile (cs.contains ·) = [] := by simpa using h
    rw [dw_nil_iff, List.all_reverse] at h1
    rcases dw_first (cs.contains ·) l with h2 | ⟨c, r, h2, h3⟩
    · exact (dw_nil_iff _ l).1 h2
    · rw [h2, List.all_cons, h3] at h1
      cases h1
  · intro h
    rw [(dw_nil_iff _ l).2 h]
    rfl
theorem trimD (l : Bytes) : (Lib.trimS l dmarks = []) ↔ digitsB l = true := by
  rw [trimS_nil]
  unfold digitsB
  rw [show (fun x => dmarks.contains x) = digB from funext dmarks_dig]
theorem cut_byte (p : Bytes) (c : UInt8) : (Lib.cut p [c]).1 = p.takeWhile (· != c) ∧ (Lib.cut p [c]).2.1 = (p.dropWhile (· != c)).drop 1 ∧ (Lib.cut p [c]).2.2 = decide (c ∈ p) := by
  have hall : ∀ a : Bytes, c ∉ a → ∀ x ∈ a, (x != c) = true := fun a h x hx => by
    simp only [bne_iff_ne, ne_eq]; rintro rfl; exact h hx
  rcases index_one p c with ⟨h1, h2⟩ | ⟨a, r, rfl, h2, h3⟩
  · have t1 : p.takeWhile (· != c) = p := by
      have := List.takeWhile_append_of_pos (hall p h2) (l₂ := [])
      simpa using this
    have t2 : p.dropWhile (· != c) = [] := by
      have := List.dropWhile_append_of_pos (hall p h2) (l₂ := [])
      simpa using this
    rw [Lib.cut, if_neg (by rw [h1]; decide), t1, t2]
    exact ⟨rfl, rfl, by simp [h2]⟩
  · have t1 : (a ++ c :: r).takeWhile (· != c) = a := by rw [List.takeWhile_append_of_pos (hall a h2)]; simp
    have t2 : (a ++ c :: r).dropWhile (· != c) = c :: r := by rw [List.dropWhile_append_of_pos (hall a h2)]; simp
    rw [Lib.cut, if_pos (by rw [h3]; omega), t1, t2, h3]
    exact ⟨by simp, by simp, by simp⟩
/-- a number of up to nine digits -/
def dig9 (s : Bytes) : Int := if digitsB s = true ∧ 0 < s.length ∧ s.length ≤ 9 then dval 0 s else -1
theorem dval_lt : ∀ (l : Bytes) (a : Nat), digitsB l = true → dval a l < (a + 1) * 10 ^ l.length
  | [], a, _ => by rw [dval_nil]; simp
  | c :: r, a, h => by
    unfold digitsB at h
    rw [List.all_cons, Bool.and_eq_true] at h
    have hc : 48 ≤ c.toNat ∧ c.toNat ≤ 57 := by simpa [digB] using h.1
    rw [dval_cons]
    have := dval_lt r (a * 10 + (c.toNat - 48)) h.2
    have e : (a * 10 + (c.toNat - 48) + 1) * 10 ^ r.length ≤ (a + 1) * 10 * 10 ^ r.length := Nat.mul_le_mul_right _ (by omega)
    rw [List.length_cons, Nat.pow_succ, Nat.mul_comm (10 ^ r.length) 10, ← Nat.mul_assoc]
    omega
theorem pcs_le (t : Bytes) : ∀ (n : Nat) (l : Bytes), l.length ≤ n → ∀ p ∈ pcs t l, p.length ≤ l.length := by
  intro n
  induction n with
  | zero =>
    intro l h p hp
    obtain rfl : l = [] := List.length_eq_zero_iff.1 (by omega)
    rw [pcs] at hp
    simp at hp
    simp [hp]
  | succ n ih =>
    intro l h p hp
    cases l with
    | nil => rw [pcs] at hp; simp at hp; simp [hp]
    | cons c r =>
      rw [pcs] at hp
      split at hp
      · rename_i hc
        rcases List.mem_cons.1 hp with rfl | hp
        · simp
        · have hpos : 0 < t.length := List.length_pos_iff.2 hc.1
          have := ih _ (by rw [List.length_drop, List.length_cons] at *; omega) p hp
          rw [List.length_drop] at this
          omega
      · rw [List.length_cons] at h
        rcases List.mem_cons.1 hp with rfl | hp
        · have : (pcs t r).headD [] ∈ pcs t r := by
            cases e : pcs t r with
            | nil => exact absurd e (pcs_ne r)
            | cons x y => simp
          have := ih r (by omega) _ this
          rw [List.length_cons, List.length_cons]; omega
        · have := ih r (by omega) p (List.mem_of_mem_tail hp)
          simp; omega
theorem pcs_len (t : Bytes) : ∀ (n : Nat) (l : Bytes), l.length ≤ n → (pcs t l).length ≤ l.length + 1 := by
  intro n
  induction n with
  | zero =>
    intro l h
    obtain rfl : l = [] := List.length_eq_zero_iff.1 (by omega)
    rw [pcs]; simp
  | succ n ih =>
    intro l h
    cases l with
    | nil => rw [pcs]; simp
    | cons c r =>
      rw [pcs]
      split
      · rename_i hc
        have hpos : 0 < t.length := List.length_pos_iff.2 hc.1
        have := ih ((c :: r).drop t.length) (by rw [List.length_drop, List.length_cons] at *; omega)
        rw [List.length_drop] at this
        rw [List.length_cons, List.length_cons] at *
        omega
      · have := ih r (by rw [List.length_cons] at h; omega)
        simp
        omega
end Go.Proofs.YtlgdkaeiadhiaaaGreatDoor
