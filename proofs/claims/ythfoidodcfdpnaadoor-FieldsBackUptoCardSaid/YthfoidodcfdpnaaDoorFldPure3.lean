/- Fields: what is written is read as it was; forms one behind the other; how long what is written may be. No program in sight. -/
import Derived.Test.YthfoidodcfdpnaaDoorFld12
namespace Go.Proofs.YthfoidodcfdpnaaDoor
open Go Go.RowKit
theorem pieces_amp : ∀ (a b : Bytes), pieces (a ++ 38 :: b) = pieces a ++ pieces b
  | [], b => by
    show pieces (38 :: b) = [] :: pieces b
    rw [pieces, if_pos rfl]
  | c :: a, b => by
    have ih := pieces_amp a b
    rw [List.cons_append, pieces, pieces, ih]
    by_cases h : c = 38
    · rw [if_pos h, if_pos h]; rfl
    · rw [if_neg h, if_neg h]
      cases hp : pieces a with
      | nil => exact absurd hp (pieces_ne a)
      | cons x y => rfl
theorem fieldsOf_append : ∀ (x y : List Bytes), fieldsOf (x ++ y) = (fieldsOf x).bind fun p => (fieldsOf y).map (p ++ ·)
  | [], y => by simp [fieldsOf]
  | p :: x, y => by
    have ih := fieldsOf_append x y
    rw [List.cons_append, fieldsOf, fieldsOf]
    by_cases h : p = []
    · rw [if_pos h, if_pos h, ih]
    · rw [if_neg h, if_neg h]
      cases field p with
      | none => rfl
      | some f =>
        rw [ih]
        cases fieldsOf x with
        | none => rfl
        | some fs => cases fieldsOf y <;> simp
theorem hexD_facts (n : Nat) (h : n < 16) : hexV (hexD n).toNat = n ∧ (hexD n).toNat ≠ 38 ∧ (hexD n).toNat ≠ 61 := by
  have H : ∀ n : Fin 16, hexV (hexD n.val).toNat = n.val ∧ (hexD n.val).toNat ≠ 38 ∧ (hexD n.val).toNat ≠ 61 := by decide +kernel
  exact H ⟨n, h⟩
theorem codedB_free (b : UInt8) : ∀ x ∈ codedB b, x ≠ 38 ∧ x ≠ 61 := by
  have H : ∀ b : Fin 256, ∀ x ∈ codedB (UInt8.ofNat b.val), x ≠ 38 ∧ x ≠ 61 := by decide +kernel
  have := H ⟨b.toNat, UInt8.toNat_lt b⟩
  simpa using this
theorem coded_free (l : Bytes) : ∀ x ∈ coded l, x ≠ 38 ∧ x ≠ 61 := by
  intro x hx
  obtain ⟨b, _, hb⟩ := List.mem_flatMap.1 hx
  exact codedB_free b x hb
theorem said_codedB (b : UInt8) (r : Bytes) : said (codedB b ++ r) = (said r).map (b :: ·) := by
  unfold codedB
  by_cases h : plainB b.toNat = true
  · rw [if_pos h]
    have h1 : ¬ b = 43 := by rintro rfl; revert h; decide
    have h2 : ¬ b = 37 := by rintro rfl; revert h; decide
    rw [List.cons_append, List.nil_append, said, if_neg h1, if_neg h2]
  · rw [if_neg h]
    by_cases h3 : b = 32
    · rw [if_pos h3, List.cons_append, List.nil_append, said, if_pos rfl, h3]
    · rw [if_neg h3, List.cons_append, said, if_neg (by decide), if_pos rfl]
      have hb := UInt8.toNat_lt b
      have e1 := (hexD_facts (b.toNat / 16) (by omega)).1
      have e2 := (hexD_facts (b.toNat % 16) (by omega)).1
      have q1 : by8 ([hexD (b.toNat / 16), hexD (b.toNat % 16)] ++ r) 0 = (hexD (b.toNat / 16)).toNat := rfl
      have q2 : by8 ([hexD (b.toNat / 16), hexD (b.toNat % 16)] ++ r) 1 = (hexD (b.toNat % 16)).toNat := rfl
      rw [q1, q2, e1, e2, if_neg (by simp; omega)]
      have e3 : ((b.toNat / 16 : Nat) : Int) * 16 + ((b.toNat % 16 : Nat) : Int) = ((b.toNat : Nat) : Int) := by omega
      rw [e3, B8_toNat]
      rfl
theorem said_coded : ∀ (l : Bytes), said (coded l) = some l
  | [] => by simp [coded, said_nil]
  | b :: r => by
    have := said_coded r
    unfold coded at *
    rw [List.flatMap_cons, said_codedB, this]
    rfl
theorem part_free (f : Fld) : (38 : UInt8) ∉ part f := by
  intro h
  unfold part at h
  simp only [List.mem_append, List.mem_cons, List.not_mem_nil, or_false] at h
  rcases h with (h | h) | h
  · exact (coded_free _ _ h).1 rfl
  · exact absurd h (by decide)
  · exact (coded_free _ _ h).1 rfl
theorem part_ne (f : Fld) : part f ≠ [] := by simp [part]
theorem name_part (f : Fld) : nameOf (part f) = coded f.1 := by
  unfold nameOf part
  rw [List.append_assoc, List.takeWhile_append_of_pos (fun x hx => by have := (coded_free _ _ hx).2; simpa using this)]
  simp
theorem value_part (f : Fld) : valueOf (part f) = coded f.2 := by
  unfold valueOf part
  rw [List.append_assoc, List.dropWhile_append_of_pos (fun x hx => by have := (coded_free _ _ hx).2; simpa using this)]
  simp
theorem pieces_tail : ∀ (r : List Bytes) (p : Bytes), (38 : UInt8) ∉ p → (∀ q ∈ r, (38 : UInt8) ∉ q) → pieces (p ++ Lib.joinTail [38] r) = p :: r
  | [], p, h, _ => by simp [Lib.joinTail, pieces_miss p h]
  | q :: r, p, h, hr => by
    have e2 : Lib.joinTail [38] (q :: r) = 38 :: (q ++ Lib.joinTail [38] r) := by simp [Lib.joinTail]
    rw [e2, pieces_hit _ _ h, pieces_tail r q (hr q (by simp)) (fun x hx => hr x (List.mem_cons_of_mem _ hx))]
theorem fields_parts : ∀ (fs : List Fld), fieldsOf (fs.map part) = some fs
  | [] => rfl
  | f :: fs => by
    rw [List.map_cons, fields_good (part_ne f) (by rw [name_part, said_coded]) (by rw [value_part, said_coded]), fields_parts fs]
    rfl
theorem fields_joined (fs : List Fld) : fieldsOf (pieces (joined fs)) = some fs := by
  cases fs with
  | nil => simp [joined, Lib.join_nil, pieces, fieldsOf]
  | cons f r =>
    unfold joined
    rw [List.map_cons, Lib.join_cons, pieces_tail _ _ (part_free f) (fun q hq => by obtain ⟨g, _, rfl⟩ := List.mem_map.1 hq; exact part_free g)]
    exact fields_parts (f :: r)
theorem parse_joined {fs : List Fld} (h1 : fs.length ≤ 32) (h2 : (joined fs).length ≤ 4096) : parse (joined fs) = (fs, 0) := parse_ok h2 (fields_joined fs) h1
/-! ### lengths -/
theorem said_len : ∀ (n : Nat) (l m : Bytes), l.length ≤ n → said l = some m → m.length ≤ l.length := by
  intro n
  induction n with
  | zero =>
    intro l m h hm
    obtain rfl : l = [] := List.length_eq_zero_iff.1 (by omega)
    rw [said_nil] at hm
    cases hm
    simp
  | succ n ih =>
    intro l m h hm
    cases l with
    | nil => rw [said_nil] at hm; cases hm; simp
    | cons b r =>
      rw [List.length_cons] at h
      rw [said] at hm
      split at hm
      · obtain ⟨x, hx, rfl⟩ := Option.map_eq_some_iff.1 hm
        have := ih r x (by omega) hx
        simp; omega
      · split at hm
        · split at hm
          · cases hm
          · obtain ⟨x, hx, rfl⟩ := Option.map_eq_some_iff.1 hm
            have := ih (r.drop 2) x (by simp; omega) hx
            simp at this ⊢; omega
        · obtain ⟨x, hx, rfl⟩ := Option.map_eq_some_iff.1 hm
          have := ih r x (by omega) hx
          simp; omega
def bulkOf (fs : List Fld) : Nat := (fs.map fun f => f.1.length + f.2.length).sum
theorem name_value_len (p : Bytes) : (nameOf p).length + (valueOf p).length ≤ p.length := by
  unfold nameOf valueOf
  have : (p.takeWhile (· != 61) ++ p.dropWhile (· != 61)).length = p.length := by rw [List.takeWhile_append_dropWhile]
  rw [List.length_append] at this
  rw [List.length_drop]
  omega
theorem fields_bulk : ∀ (ps : List Bytes) (fs : List Fld), fieldsOf ps = some fs → bulkOf fs ≤ (ps.map (·.length)).sum ∧ fs.length ≤ ps.length
  | [], fs, h => by cases h; simp [bulkOf]
  | p :: ps, fs, h => by
    rw [fieldsOf] at h
    split at h
    · have := fields_bulk ps fs h
      rw [List.map_cons, List.sum_cons, List.length_cons]
      omega
    · unfold field at h
      rcases h1 : said (nameOf p) with _ | nm <;> rcases h2 : said (valueOf p) with _ | vl <;> rw [h1, h2] at h
      · cases h
      · cases h
      · cases h
      · obtain ⟨x, hx, rfl⟩ := Option.map_eq_some_iff.1 h
        have := fields_bulk ps x hx
        have g1 := said_len _ _ _ (Nat.le_refl _) h1
        have g2 := said_len _ _ _ (Nat.le_refl _) h2
        have g3 := name_value_len p
        have e : bulkOf ((nm, vl) :: x) = nm.length + vl.length + bulkOf x := by simp [bulkOf]
        rw [e, List.map_cons, List.sum_cons, List.length_cons, List.length_cons]
        omega
theorem pieces_bulk : ∀ (l : Bytes), ((pieces l).map (·.length)).sum ≤ l.length
  | [] => by simp [pieces]
  | b :: r => by
    have ih := pieces_bulk r
    rw [pieces]
    split
    · simp; omega
    · cases hp : pieces r with
      | nil => exact absurd hp (pieces_ne r)
      | cons x y =>
        rw [hp] at ih
        simp at ih ⊢
        omega
theorem joined_len : ∀ (fs : List Fld), (joined fs).length ≤ 3 * bulkOf fs + 2 * fs.length := by
  have ht : ∀ (fs : List Fld), (Lib.joinTail [38] (fs.map part)).length ≤ 3 * bulkOf fs + 2 * fs.length := by
    intro fs
    induction fs with
    | nil => simp [Lib.joinTail]
    | cons f r ih =>
      have e2 : Lib.joinTail [38] ((f :: r).map part) = 38 :: (part f ++ Lib.joinTail [38] (r.map part)) := by simp [Lib.joinTail]
      have := part_len f
      have e : bulkOf (f :: r) = f.1.length + f.2.length + bulkOf r := by simp [bulkOf]
      rw [e2, e]
      simp only [List.length_cons, List.length_append] at *
      omega
  intro fs
  cases fs with
  | nil => simp [joined, Lib.join_nil]
  | cons f r =>
    have := part_len f
    have h := ht r
    have e : bulkOf (f :: r) = f.1.length + f.2.length + bulkOf r := by simp [bulkOf]
    unfold joined
    rw [List.map_cons, Lib.join_cons, e]
    simp only [List.length_cons, List.length_append]
    omega
theorem bulk_le {fs : List Fld} {f : Fld} (h : f ∈ fs) : f.1.length + f.2.length ≤ bulkOf fs := by
  unfold bulkOf
  induction fs with
  | nil => cases h
  | cons g r ih =>
    rw [List.map_cons, List.sum_cons]
    rcases List.mem_cons.1 h with rfl | h
    · omega
    · have := ih h; omega
/-- what parse gives, whatever comes -/
theorem parse_cases (l : Bytes) : (l.length > 4096 ∧ parse l = ([], 2)) ∨ (l.length ≤ 4096 ∧ fieldsOf (pieces l) = none ∧ parse l = ([], 210)) ∨
    (∃ fs, l.length ≤ 4096 ∧ fieldsOf (pieces l) = some fs ∧ 32 < fs.length ∧ parse l = ([], 4)) ∨ (∃ fs, l.length ≤ 4096 ∧ fieldsOf (pieces l) = some fs ∧ fs.length ≤ 32 ∧ parse l = (fs, 0)) := by
  by_cases h : l.length > 4096
  · exact .inl ⟨h, by rw [parse, if_pos h]⟩
  · have h' : l.length ≤ 4096 := by omega
    rcases hf : fieldsOf (pieces l) with _ | fs
    · exact .inr (.inl ⟨h', rfl, parse_bad h' hf⟩)
    · by_cases h32 : 32 < fs.length
      · exact .inr (.inr (.inl ⟨fs, h', rfl, h32, parse_full h' hf h32⟩))
      · exact .inr (.inr (.inr ⟨fs, h', rfl, by omega, parse_ok h' hf (by omega)⟩))
theorem parse_small (l : Bytes) : FSmall (parse l).1 ∧ (parse l).1.length ≤ 32 := by
  rcases parse_cases l with ⟨_, e⟩ | ⟨_, _, e⟩ | ⟨fs, _, _, _, e⟩ | ⟨fs, h1, h2, h3, e⟩
  · rw [e]; exact ⟨fun f hf => by simp at hf, by simp⟩
  · rw [e]; exact ⟨fun f hf => by simp at hf, by simp⟩
  · rw [e]; exact ⟨fun f hf => by simp at hf, by simp⟩
  · rw [e]
    refine ⟨fun f hf => ?_, h3⟩
    have := bulk_le (fs := fs) hf
    have := (fields_bulk _ _ h2).1
    have := pieces_bulk l
    omega
end Go.Proofs.YthfoidodcfdpnaaDoor
