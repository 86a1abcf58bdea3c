/- Pieces between &, name and value about =: in the words of strings.Split and strings.Cut, and of a scan by places. -/
import Derived.Test.YtlgdkaeiadhiaaaGreatDoorFldPure
namespace Go.Proofs.YtlgdkaeiadhiaaaGreatDoor
open Go Go.RowKit
set_option linter.all false
theorem pieces_miss : ∀ (l : Bytes), (38 : UInt8) ∉ l → pieces l = [l]
  | [], _ => rfl
  | b :: r, h => by
    have hb : ¬ b = 38 := fun e => h (by simp [e])
    rw [pieces, if_neg hb, pieces_miss r (fun e => h (by simp [e]))]
    rfl
theorem pieces_hit : ∀ (a r : Bytes), (38 : UInt8) ∉ a → pieces (a ++ 38 :: r) = a :: pieces r
  | [], r, _ => by rw [List.nil_append, pieces, if_pos rfl]
  | b :: a, r, h => by
    have hb : ¬ b = 38 := fun e => h (by simp [e])
    rw [List.cons_append, pieces, if_neg hb, pieces_hit a r (fun e => h (by simp [e]))]
    rfl
/-- where one byte stands first -/
theorem index_one (l : Bytes) (c : UInt8) : (Lib.index l [c] = -1 ∧ c ∉ l) ∨ (∃ a r, l = a ++ c :: r ∧ c ∉ a ∧ Lib.index l [c] = a.length) := by
  induction l with
  | nil => exact .inl ⟨rfl, by simp⟩
  | cons b r ih =>
    by_cases hb : c = b
    · subst hb
      exact .inr ⟨[], r, rfl, by simp, by simp [Lib.index]⟩
    · have hp : ([c] : Bytes).isPrefixOf (b :: r) = false := by simp [List.isPrefixOf, hb]
      rcases ih with ⟨h1, h2⟩ | ⟨a, s, rfl, h2, h3⟩
      · refine .inl ⟨?_, by simp [hb, h2]⟩
        rw [Lib.index, hp, h1]
        rfl
      · refine .inr ⟨b :: a, s, rfl, by simp [hb, h2], ?_⟩
        rw [Lib.index, hp, h3]
        have : ((a.length : Int) == -1) = false := by rw [beq_eq_false_iff_ne]; omega
        simp [this]
theorem split_pieces : ∀ (n : Nat) (l : Bytes), l.length ≤ n → Lib.split l [38] = pieces l := by
  intro n
  induction n with
  | zero =>
    intro l h
    obtain rfl : l = [] := List.length_eq_zero_iff.1 (by omega)
    rfl
  | succ n ih =>
    intro l h
    rcases index_one l 38 with ⟨h1, h2⟩ | ⟨a, r, rfl, h2, h3⟩
    · rw [pieces_miss l h2, Lib.split, Lib.count_miss h1]
      rfl
    · rw [pieces_hit a r h2, ← ih r (by simp at h; omega), Lib.split, Lib.count_hit (by simp) h3, Nat.add_comm, Lib.splitK, if_neg (by rw [h3, beq_iff_eq]; omega), h3]
      have e1 : (a ++ 38 :: r).drop ((a.length : Int).toNat + [(38 : UInt8)].length) = r := by simp
      have e2 : (a ++ 38 :: r).take ((a.length : Int).toNat + 0) = a := by simp
      have e3 : (a ++ 38 :: r).drop (a.length + [(38 : UInt8)].length) = r := by simp
      rw [e1, e2, e3]
      rfl
theorem takeW_all : ∀ (p : Bytes), (61 : UInt8) ∉ p → p.takeWhile (· != 61) = p ∧ p.dropWhile (· != 61) = []
  | [], _ => ⟨rfl, rfl⟩
  | b :: r, h => by
    have hb : (b != 61) = true := by simp only [bne_iff_ne, ne_eq]; rintro rfl; exact h (by simp)
    obtain ⟨h1, h2⟩ := takeW_all r (fun e => h (by simp [e]))
    rw [List.takeWhile_cons, List.dropWhile_cons, hb, h1, h2]
    exact ⟨rfl, rfl⟩
theorem cut_name (p : Bytes) : (Lib.cut p [61]).1 = nameOf p ∧ (Lib.cut p [61]).2.1 = valueOf p := by
  have hall : ∀ a : Bytes, (61 : UInt8) ∉ a → ∀ x ∈ a, (x != 61) = true := fun a h x hx => by
    simp only [bne_iff_ne, ne_eq]; rintro rfl; exact h hx
  rcases index_one p 61 with ⟨h1, h2⟩ | ⟨a, r, rfl, h2, h3⟩
  · have t1 : p.takeWhile (· != 61) = p := (takeW_all p h2).1
    have t2 : p.dropWhile (· != 61) = [] := (takeW_all p h2).2
    rw [Lib.cut, if_neg (by rw [h1]; decide), nameOf, valueOf, t1, t2]
    exact ⟨rfl, rfl⟩
  · have t1 : (a ++ 61 :: r).takeWhile (· != 61) = a := by rw [List.takeWhile_append_of_pos (hall a h2)]; simp
    have t2 : (a ++ 61 :: r).dropWhile (· != 61) = 61 :: r := by rw [List.dropWhile_append_of_pos (hall a h2)]; simp
    rw [Lib.cut, if_pos (by rw [h3]; omega), nameOf, valueOf, t1, t2, h3]
    exact ⟨by simp, by simp⟩
/-- one more field behind those that are read -/
theorem fields_scan (l : Bytes) (a i : Nat) (hai : a ≤ i) (hi : i ≤ l.length) (h38 : i < l.length → by8 l i = 38) (hno : ∀ k, a ≤ k → k < i → by8 l k ≠ 38) :
    fieldsOf (pieces (l.drop a)) = fieldsOf (sub l a i :: pieces (l.drop (i + 1))) := by
  have hs : (38 : UInt8) ∉ sub l a i := by
    intro hm
    obtain ⟨k, hk, e⟩ := List.getElem_of_mem hm
    have hk' : k < i - a := by rw [length_sub] at hk; omega
    have e' : (sub l a i)[k]? = some 38 := by rw [List.getElem?_eq_getElem hk, e]
    have hb : by8 l (a + k) = 38 := by
      rw [sub, List.getElem?_take, if_pos hk', List.getElem?_drop] at e'
      unfold by8
      rw [List.getD_eq_getElem?_getD, e']
      rfl
    exact hno (a + k) (by omega) (by omega) hb
  by_cases hlt : i < l.length
  · have e : l.drop a = sub l a i ++ 38 :: l.drop (i + 1) := by
      have e1 : sub l a i = (l.drop a).take (i - a) := rfl
      have e2 : l.getD i 0 = 38 := (at_lit l i 38 38 rfl).2 (h38 hlt)
      have e3 : 38 :: l.drop (i + 1) = (l.drop a).drop (i - a) := by rw [List.drop_drop, show a + (i - a) = i by omega, drop_at l i hlt, e2]
      rw [e1, e3, List.take_append_drop]
    rw [e, pieces_hit _ _ hs]
  · have e : sub l a i = l.drop a := by
      unfold sub
      rw [List.take_of_length_le]
      rw [List.length_drop]; omega
    rw [e] at hs
    rw [e, pieces_miss _ hs, List.drop_eq_nil_of_le (show l.length ≤ i + 1 by omega)]
    simp [fieldsOf, pieces]
theorem fields_skip {ps : List Bytes} : fieldsOf ([] :: ps) = fieldsOf ps := by rw [fieldsOf, if_pos rfl]
theorem fields_bad {p : Bytes} {ps : List Bytes} (h : p ≠ []) (hf : said (nameOf p) = none ∨ said (valueOf p) = none) : fieldsOf (p :: ps) = none := by
  rw [fieldsOf, if_neg h]
  have : field p = none := by
    unfold field
    rcases hf with hf | hf
    · rw [hf]
    · rw [hf]; cases said (nameOf p) <;> rfl
  rw [this]
theorem fields_good {p : Bytes} {ps : List Bytes} {n v : Bytes} (h : p ≠ []) (h1 : said (nameOf p) = some n) (h2 : said (valueOf p) = some v) : fieldsOf (p :: ps) = (fieldsOf ps).map ((n, v) :: ·) := by
  rw [fieldsOf, if_neg h]
  have : field p = some (n, v) := by unfold field; rw [h1, h2]
  rw [this]
theorem fstep {o x y : Option (List Fld)} {acc : List Fld} {f : Fld} (h : o = x.map (acc ++ ·)) (g : x = y.map (f :: ·)) : o = y.map ((acc ++ [f]) ++ ·) := by
  rw [h, g, Option.map_map]
  congr 1
  funext z
  simp
end Go.Proofs.YtlgdkaeiadhiaaaGreatDoor
