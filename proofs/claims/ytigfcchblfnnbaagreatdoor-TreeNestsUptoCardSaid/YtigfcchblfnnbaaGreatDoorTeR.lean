/- Layer 2, in plain words: what names tokens have. Layer 3, in plain words: the order of attributes. Layer 2, in plain words: how long a token's parts can be. -/
import Derived.Test.YtigfcchblfnnbaaGreatDoorTeP
import Derived.Test.YtigfcchblfnnbaaGreatDoorTpA
namespace Go.Proofs.YtigfcchblfnnbaaGreatDoor
open Go Go.RowKit
set_option linter.all false
namespace Te
open Tk
def Al (xs : Cs) : Prop := ∀ c ∈ xs, allowed c = true
theorem Al.suf {p z : Cs} (h : Al (p ++ z)) : Al z := fun c hc => h c (List.mem_append_right _ hc)
theorem Al.pre {p z : Cs} (h : Al (p ++ z)) : Al p := fun c hc => h c (List.mem_append_left _ hc)
theorem Al.of_suf {xs p z : Cs} (h : Al xs) (e : xs = p ++ z) : Al z := by rw [e] at h; exact h.suf
theorem Al.drop {xs : Cs} (h : Al xs) (n : Nat) : Al (xs.drop n) := fun c hc => h c (List.mem_of_mem_drop hc)
theorem Al.blanks {xs : Cs} (h : Al xs) : Al (blanks xs) := by
  obtain ⟨b, e, -⟩ := blanks_ext xs
  exact h.of_suf e
structure NmC (nm : Cs) : Prop where
  all : ∀ c ∈ nm, goesOn c = true
  hd : hd begins nm = true
  len : nm.length ≤ 64
  ok : Al nm
theorem and_split {α β : Type} {r : R α} {k : α → Cs → Except (Nat × Nat) β} {b : β} (h : r.and k = .ok b) : ∃ a q, r = .ok (a, q) ∧ k a q = .ok b := by
  rcases r with x | ⟨a, q⟩
  · cases h
  · exact ⟨a, q, rfl, h⟩
structure TokNm (t : Tok) : Prop where
  nm : t.kind ≠ 3 → NmC t.nm
  at_ : ∀ a ∈ t.attrs, NmC a.nm
theorem say_toks (s : St) (k : Nat) (t : Cs) : ((s.begin k).say t).toks = s.toks := by unfold St.begin St.say; split <;> rfl
end Te
end Go.Proofs.YtigfcchblfnnbaaGreatDoor
namespace Go.Proofs.YtigfcchblfnnbaaGreatDoor
open Go Go.RowKit
set_option linter.all false
namespace Te
theorem exLt_iff (a b : ExV) : exLt a b = true ↔ a.sp < b.sp ∨ (a.sp = b.sp ∧ a.lo < b.lo) := by unfold exLt; simp
theorem exLt_no (a b : ExV) : exLt a b = false ↔ ¬ (a.sp < b.sp ∨ (a.sp = b.sp ∧ a.lo < b.lo)) := by rw [← exLt_iff]; simp
theorem exLt_irrefl (a : ExV) : exLt a a = false := by
  rw [exLt_no]
  rintro (h | ⟨-, h⟩)
  · exact List.lt_irrefl _ h
  · exact List.lt_irrefl _ h
theorem exLt_trans (a b c : ExV) (h : exLt a b = true) (k : exLt b c = true) : exLt a c = true := by
  rw [exLt_iff] at *
  rcases h with h | ⟨h, h'⟩ <;> rcases k with k | ⟨k, k'⟩
  · exact .inl (List.lt_trans h k)
  · rw [← k]; exact .inl h
  · rw [h]; exact .inl k
  · exact .inr ⟨h.trans k, List.lt_trans h' k'⟩
theorem exLt_tri (a b : ExV) (h : exLt a b = false) (k : exLt b a = false) : a.sp = b.sp ∧ a.lo = b.lo := by
  rw [exLt_no] at h k
  by_cases e : a.sp = b.sp
  · refine ⟨e, ?_⟩
    by_cases e2 : a.lo = b.lo
    · exact e2
    · rcases bs_trich _ _ e2 with h2 | h2
      · exact absurd (.inr ⟨e, h2⟩) h
      · exact absurd (.inr ⟨e.symm, h2⟩) k
  · rcases bs_trich _ _ e with h2 | h2
    · exact absurd (.inl h2) h
    · exact absurd (.inl h2) k
theorem exLt_ntrans (a b c : ExV) (h : exLt a b = false) (k : exLt b c = false) : exLt a c = false := by
  cases hac : exLt a c with
  | false => rfl
  | true =>
    exfalso
    cases hba : exLt b a with
    | true =>
      have := exLt_trans b a c hba hac
      rw [k] at this; cases this
    | false =>
      obtain ⟨e1, e2⟩ := exLt_tri a b h hba
      rw [exLt_iff, e1, e2, ← exLt_iff, k] at hac
      cases hac
def exLe (a b : ExV) : Prop := exLt b a = false
theorem put_perm (x : ExV) : ∀ l : List ExV, (put x l).Perm (x :: l)
  | [] => .refl _
  | y :: r => by
    rw [put]
    split
    · exact .refl _
    · exact ((put_perm x r).cons y).trans (.swap x y r)
theorem put_mem {x y : ExV} {l : List ExV} (h : y ∈ put x l) : y = x ∨ y ∈ l := by
  have := (put_perm x l).mem_iff.1 h
  simpa using this
theorem put_sorted (x : ExV) : ∀ l : List ExV, l.Pairwise exLe → (put x l).Pairwise exLe
  | [], _ => by simp [put]
  | y :: r, h => by
    rw [List.pairwise_cons] at h
    rw [put]
    split
    · rename_i hx
      rw [List.pairwise_cons, List.pairwise_cons]
      refine ⟨fun z hz => ?_, h⟩
      have hyx : exLt y x = false := by
        cases hh : exLt y x with
        | false => rfl
        | true => have := exLt_trans _ _ _ hx hh; rw [exLt_irrefl] at this; cases this
      rcases List.mem_cons.1 hz with rfl | hz
      · exact hyx
      · exact exLt_ntrans _ _ _ (h.1 z hz) hyx
    · rename_i hx
      rw [List.pairwise_cons]
      refine ⟨fun z hz => ?_, put_sorted x r h.2⟩
      rcases put_mem hz with rfl | hz
      · simpa [exLe] using hx
      · exact h.1 z hz
theorem sort_both (l : List ExV) : (sortEx l).Perm l ∧ (sortEx l).Pairwise exLe := by
  have : ∀ (l acc : List ExV), acc.Pairwise exLe → (l.foldl (fun acc x => put x acc) acc).Perm (acc ++ l) ∧ (l.foldl (fun acc x => put x acc) acc).Pairwise exLe := by
    intro l
    induction l with
    | nil => intro acc h; exact ⟨by simp, h⟩
    | cons x l ih =>
      intro acc h
      obtain ⟨h1, h2⟩ := ih (put x acc) (put_sorted x acc h)
      refine ⟨h1.trans ?_, h2⟩
      exact ((put_perm x acc).append_right l).trans (List.perm_middle.symm)
  have := this l [] (by simp)
  simpa [sortEx] using this
theorem dup_none {α : Type} (same : α → α → Bool) : ∀ (l seen : List α), firstDup same seen l = none → (∀ a ∈ l, ∀ o ∈ seen, same o a = false) ∧ l.Pairwise fun a b => same a b = false
  | [], _, _ => ⟨(fun a ha => by cases ha), List.Pairwise.nil⟩
  | a :: r, seen, h => by
    rw [firstDup] at h
    split at h
    · cases h
    · rename_i hs
      obtain ⟨h1, h2⟩ := dup_none same r (seen ++ [a]) h
      simp only [Bool.not_eq_true, List.any_eq_false] at hs
      refine ⟨fun b hb o ho => ?_, ?_⟩
      · rcases List.mem_cons.1 hb with rfl | hb
        · have := hs o ho; simpa using this
        · exact h1 b hb o (List.mem_append_left _ ho)
      · rw [List.pairwise_cons]
        exact ⟨fun b hb => h1 b hb a (by simp), h2⟩
/-- THERE IS ONE ORDER -/
theorem sort_unique {l m : List ExV} (hp : m.Perm l) (hs : m.Pairwise exLe) (hd : firstDup sameEx [] l = none) : m = sortEx l := by
  obtain ⟨h1, h2⟩ := sort_both l
  refine List.Perm.eq_of_pairwise (le := exLe) (fun a b ha hb hab hba => ?_) hs h2 (hp.trans h1.symm)
  obtain ⟨e1, e2⟩ := exLt_tri a b hba hab
  have ha' : a ∈ l := hp.mem_iff.1 ha
  have hb' : b ∈ l := h1.mem_iff.1 hb
  have hpw := (dup_none _ _ _ hd).2
  rw [List.pairwise_iff_getElem] at hpw
  obtain ⟨i, hi, rfl⟩ := List.getElem_of_mem ha'
  obtain ⟨j, hj, rfl⟩ := List.getElem_of_mem hb'
  rcases Nat.lt_trichotomy i j with h | h | h
  · have := hpw i j hi hj h; simp [sameEx, e1, e2] at this
  · subst h; rfl
  · have := hpw j i hj hi h; simp [sameEx, e1, e2] at this
end Te
end Go.Proofs.YtigfcchblfnnbaaGreatDoor
namespace Go.Proofs.YtigfcchblfnnbaaGreatDoor
open Go Go.RowKit
set_option linter.all false
namespace Te
open Tk
theorem name_64 {xs nm r : Cs} (h : name xs = .ok (nm, r)) : nm.length ≤ 64 := by
  unfold name at h
  split at h
  · split at h
    · cases h
    · rename_i hl
      cases h
      omega
  · cases h
theorem untilT_sum (t : List Nat) : ∀ (xs x q : Cs), untilT t xs = .ok (x, q) → x.length + q.length ≤ xs.length
  | [], x, q, h => by rw [untilT] at h; cases h
  | c :: r, x, q, h => by
    rw [untilT] at h
    split at h
    · cases h; simp
    · obtain ⟨a, z, h1, h⟩ := and_split h
      cases h
      have := untilT_sum t r a _ h1
      simp; omega
theorem chunkGo_sum : ∀ (f : Nat) (xs t q : Cs), chunkGo f xs = .ok (t, q) → t.length + q.length ≤ xs.length
  | 0, xs, t, q, h => by rw [chunkGo] at h; cases h
  | f + 1, [], t, q, h => by rw [chunkGo] at h; cases h; simp
  | f + 1, c :: r, t, q, h => by
    rw [chunkGo] at h
    split at h
    · cases h; simp
    split at h
    · cases h
    split at h
    · obtain ⟨v, z, h1, h⟩ := and_split h
      obtain ⟨a, z2, h2, h⟩ := and_split h
      cases h
      have := ref_len h1
      have := chunkGo_sum f z a _ h2
      simp at *; omega
    · obtain ⟨a, z2, h2, h⟩ := and_split h
      cases h
      have := chunkGo_sum f r a _ h2
      simp at *; omega
structure LenA (a : Attr) : Prop where
  nm : a.nm.length ≤ 64
theorem attrsGo_sum : ∀ (f : Nat) (xs : Cs) (l : List Attr) (q : Cs), attrsGo f xs = .ok (l, q) → l.length + q.length ≤ xs.length ∧ ∀ a ∈ l, LenA a
  | 0, xs, l, q, h => by rw [attrsGo] at h; cases h
  | f + 1, xs, l, q, h => by
    rw [attrsGo] at h
    have hb := blanks_len xs
    split at h
    · obtain ⟨nm, r1, h1, h⟩ := and_split h
      obtain ⟨u, r2, h2, h⟩ := and_split h
      obtain ⟨v, r3, h3, h⟩ := and_split h
      obtain ⟨l', z, h4, h⟩ := and_split h
      cases h
      have k1 := (name_len h1).2
      have k2 := takeC_len h2
      have k3 := value_len h3
      have b1 := blanks_len r1
      have b2 := blanks_len r2
      obtain ⟨k5, k6⟩ := attrsGo_sum f r3 l' _ h4
      refine ⟨by simp; omega, fun a hm => ?_⟩
      rcases List.mem_cons.1 hm with rfl | hm
      · exact ⟨name_64 h1⟩
      · exact k6 a hm
    · cases h
      exact ⟨by simpa using hb, fun a hm => by cases hm⟩
structure LenT (N : Nat) (t : Tok) : Prop where
  nm : t.nm.length ≤ 64
  tx : t.text.length ≤ N
  an : t.attrs.length ≤ N
  at_ : ∀ a ∈ t.attrs, LenA a
theorem tag_lenT {N : Nat} {xs z : Cs} {t : Tok} (h : tag xs = .ok (t, z)) (hN : xs.length ≤ N) : LenT N t := by
  unfold tag at h
  split at h
  · obtain ⟨nm, r1, h1, h⟩ := and_split h
    obtain ⟨u, r2, h2, h⟩ := and_split h
    cases h
    exact ⟨name_64 h1, Nat.zero_le _, Nat.zero_le _, fun a hm => by cases hm⟩
  · obtain ⟨nm, r1, h1, h⟩ := and_split h
    have k1 := (name_len h1).2
    obtain ⟨l, r2, h2, h⟩ := and_split h
    obtain ⟨k3, k4⟩ := attrsGo_sum _ _ _ _ h2
    have : (xs.drop 1).length ≤ xs.length := by simp
    split at h
    · obtain ⟨u, r3, h3, h⟩ := and_split h
      cases h
      exact ⟨name_64 h1, Nat.zero_le _, by show l.length ≤ N; omega, k4⟩
    · obtain ⟨u, r3, h3, h⟩ := and_split h
      cases h
      exact ⟨name_64 h1, Nat.zero_le _, by show l.length ≤ N; omega, k4⟩
theorem flush_lenT {N : Nat} {st : St} (h : ∀ t ∈ st.toks, LenT N t) (ht : st.text.length ≤ N) : ∀ t ∈ st.flush.toks, LenT N t := by
  unfold St.flush
  split
  · exact h
  · intro t hm
    rcases List.mem_append.1 hm with hm | hm
    · exact h t hm
    · obtain rfl := List.mem_singleton.1 hm
      exact ⟨Nat.zero_le _, ht, Nat.zero_le _, fun a hm => by cases hm⟩
theorem say_text (s : St) (k : Nat) (t : Cs) : ((s.begin k).say t).text = s.text ++ t := by unfold St.begin St.say; split <;> rfl
theorem allGo_lenT (N : Nat) : ∀ (f : Nat) (xs : Cs) (st : St) (ts : List Tok), allGo f xs st = .ok ts → st.text.length + xs.length ≤ N → (∀ t ∈ st.toks, LenT N t) → ∀ t ∈ ts, LenT N t
  | 0, xs, st, ts, h, _, _ => by rw [allGo] at h; cases h
  | f + 1, xs, st, ts, h, hN, hs => by
    rw [allGo] at h
    split at h
    · cases h; exact flush_lenT hs (by omega)
    split at h
    · obtain ⟨a, q, h1, h⟩ := and_split h
      have := instr_len h1
      exact allGo_lenT N f _ _ _ h (by omega) hs
    split at h
    · obtain ⟨a, q, h1, h⟩ := and_split h
      have := comment_len h1
      exact allGo_lenT N f _ _ _ h (by omega) hs
    split at h
    · obtain ⟨a, q, h1, h⟩ := and_split h
      have h2 := untilT_sum _ _ _ _ h1
      have : (xs.drop 9).length ≤ xs.length := by simp
      exact allGo_lenT N f _ _ _ h (by rw [say_text, List.length_append]; omega) (by rw [say_toks]; exact hs)
    split at h
    · cases h
    split at h
    · cases h
    split at h
    · rename_i hx
      obtain ⟨a, q, h1, h⟩ := and_split h
      obtain ⟨c, r, e, -⟩ := tag_ext hx h1
      refine allGo_lenT N f _ _ _ h (by have := congrArg List.length e; simp at this ⊢; omega) ?_
      intro t ht
      rcases List.mem_append.1 ht with ht | ht
      · exact flush_lenT hs (by omega) t ht
      · obtain rfl := List.mem_singleton.1 ht
        exact tag_lenT h1 (by omega)
    · obtain ⟨a, q, h1, h⟩ := and_split h
      have := chunkGo_sum _ _ _ _ h1
      exact allGo_lenT N f _ _ _ h (by rw [say_text, List.length_append]; omega) (by rw [say_toks]; exact hs)
theorem enc_4 (c : Nat) : (enc c).length ≤ 4 := by unfold enc; repeat (first | split | simp)
theorem narrow_4 (cs : Cs) : (narrow cs).length ≤ 4 * cs.length := by
  induction cs with
  | nil => simp [narrow]
  | cons c cs ih => unfold narrow at *; rw [List.flatMap_cons, List.length_append, List.length_cons]; have := enc_4 c; omega
theorem rdby_len {l : List UInt8} {cs : Cs} (h : RdBy l cs) : cs.length ≤ l.length := by
  induction h with
  | nil => exact Nat.le_refl _
  | chr c t cs hc _ ih =>
    have : 1 ≤ (enc c).length := by unfold enc; repeat (first | split | simp)
    rw [List.length_append, List.length_cons]; omega
  | crlf t cs _ ih => simp; omega
  | cr t cs h _ ih => simp; omega
structure LenV (t : TokV) : Prop where
  nm : t.nm.length ≤ 1000000000
  tx : t.text.length ≤ 1000000000
  an : t.attrs.length ≤ 1000000
  at_ : ∀ a ∈ t.attrs, a.nm.length ≤ 1000000000
/-- HOW LONG A TOKEN'S PARTS CAN BE -/
theorem whole_lens {l : List UInt8} {ts : List TokV} (h : whole l = .ok ts) : ∀ t ∈ ts, LenV t := by
  have hl : l.length ≤ 65536 := by
    unfold whole at h
    split at h
    · cases h
    · omega
  have hr0 : (rdA l).2 = 0 := by
    rw [← read_rdA]
    unfold whole at h
    split at h
    · cases h
    · split at h
      · cases h
      · rename_i h3; simpa using h3
  have hrd := RdBy.of l.length l (Nat.le_refl _) hr0
  generalize (rdA l).1 = cs at hrd
  obtain ⟨us, k1, k2⟩ := whole_of_read hrd.read h
  have hcs := rdby_len hrd
  unfold tokens at k1
  obtain ⟨u, xs, d1, k1⟩ := and_split k1
  have hxs := decl_len d1
  have hn := allGo_lenT 65536 _ _ _ _ k1 (by simp; omega) (fun t ht => by cases ht)
  intro t ht
  rw [k2] at ht
  obtain ⟨s, hs, rfl⟩ := List.mem_map.1 ht
  have := hn s hs
  have e1 := narrow_4 s.nm
  have e2 := narrow_4 s.text
  have e3 := this.nm
  have e4 := this.tx
  refine ⟨by show (narrow s.nm).length ≤ _; omega, by show (narrow s.text).length ≤ _; omega, by show (s.attrs.map _).length ≤ _; rw [List.length_map]; have := this.an; omega, fun a ha => ?_⟩
  obtain ⟨b, hb, rfl⟩ := List.mem_map.1 ha
  have e5 := narrow_4 b.nm
  have e6 := (this.at_ b hb).nm
  show (narrow b.nm).length ≤ _
  omega
end Te
end Go.Proofs.YtigfcchblfnnbaaGreatDoor
