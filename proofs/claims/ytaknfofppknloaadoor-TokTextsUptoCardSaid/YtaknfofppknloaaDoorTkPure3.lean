/- Layer 2, in plain words: any text, with its marks escaped, is told as it is. -/
import Derived.Test.YtaknfofppknloaaDoorTkPure2
namespace Go.Proofs.YtaknfofppknloaaDoor
open Go Go.RowKit
set_option linter.all false
namespace Tk
/-- a text's bytes, escaped -/
def escB (v : Bool) (b : UInt8) : List UInt8 :=
  if b = 60 then [38, 108, 116, 59]
  else if b = 38 then [38, 97, 109, 112, 59]
  else if b = 62 then [38, 35, 54, 50, 59]
  else if b = 34 then [38, 35, 120, 50, 50, 59]
  else if b = 13 ∨ (v = true ∧ (b = 9 ∨ b = 10)) then [38, 35, UInt8.ofNat (48 + b.toNat / 10), UInt8.ofNat (48 + b.toNat % 10), 59]
  else [b]
def escC (v : Bool) (c : Nat) : Cs :=
  if c = 60 then [38, 108, 116, 59]
  else if c = 38 then [38, 97, 109, 112, 59]
  else if c = 62 then [38, 35, 54, 50, 59]
  else if c = 34 then [38, 35, 120, 50, 50, 59]
  else if c = 13 ∨ (v = true ∧ (c = 9 ∨ c = 10)) then [38, 35, 48 + c / 10, 48 + c % 10, 59]
  else [c]
def esc (v : Bool) (l : List UInt8) : List UInt8 := l.flatMap (escB v)
def escs (v : Bool) (cs : Cs) : Cs := cs.flatMap (escC v)
/-- the characters that a text may have here -/
def fine (c : Nat) : Prop := okc c ∧ (allowed c = true ∨ c = 13)
theorem nat_ne {b : UInt8} {n : Nat} (h : b.toNat ≠ n) (hn : n < 256) : b ≠ UInt8.ofNat n := fun e => h (by rw [e, UInt8.toNat_ofNat']; omega)
theorem escB_high (v : Bool) {b : UInt8} (h : 128 ≤ b.toNat) : escB v b = [b] := by
  have n : ∀ k : Nat, k < 128 → b ≠ UInt8.ofNat k := fun k hk => nat_ne (by omega) (by omega)
  unfold escB
  rw [if_neg (show b ≠ 60 from n 60 (by omega)), if_neg (show b ≠ 38 from n 38 (by omega)), if_neg (show b ≠ 62 from n 62 (by omega)), if_neg (show b ≠ 34 from n 34 (by omega)), if_neg]
  rintro (h1 | ⟨-, h1 | h1⟩)
  · exact n 13 (by omega) h1
  · exact n 9 (by omega) h1
  · exact n 10 (by omega) h1
theorem esc_enc (v : Bool) (c : Nat) (h : okc c) : esc v (enc c) = narrow (escC v c) := by
  rcases Nat.lt_or_ge c 128 with h1 | h1
  · have : ∀ v : Bool, ∀ c : Nat, c < 128 → esc v (enc c) = narrow (escC v c) := by decide +kernel
    exact this v c h1
  · have e : esc v (enc c) = enc c := by
      unfold esc
      have : ∀ x : List UInt8, (∀ b ∈ x, 128 ≤ b.toNat) → x.flatMap (escB v) = x := by
        intro x
        induction x with
        | nil => intro _; rfl
        | cons b x ih => intro hx; rw [List.flatMap_cons, escB_high v (hx b (by simp)), ih fun y hy => hx y (by simp [hy])]; rfl
      exact this _ (enc_up h1 h)
    rw [e]
    unfold escC
    rw [if_neg (by omega), if_neg (by omega), if_neg (by omega), if_neg (by omega), if_neg (by omega)]
    simp [narrow]
theorem narrow_append (a b : Cs) : narrow (a ++ b) = narrow a ++ narrow b := by simp [narrow]
theorem esc_narrow (v : Bool) : ∀ cs : Cs, (∀ c ∈ cs, okc c) → esc v (narrow cs) = narrow (escs v cs)
  | [], _ => rfl
  | c :: cs, h => by
    have e1 : narrow (c :: cs) = enc c ++ narrow cs := rfl
    have e2 : escs v (c :: cs) = escC v c ++ escs v cs := rfl
    have e3 : esc v (enc c ++ narrow cs) = esc v (enc c) ++ esc v (narrow cs) := by unfold esc; rw [List.flatMap_append]
    rw [e1, e2, e3, narrow_append, esc_enc v c (h c (by simp)), esc_narrow v cs fun x hx => h x (by simp [hx])]
theorem escC_allowed (v : Bool) (c : Nat) (h : fine c) : ∀ x ∈ escC v c, allowed x = true := by
  rcases Nat.lt_or_ge c 64 with h1 | h1
  · have : ∀ v : Bool, ∀ c : Nat, c < 64 → (allowed c = true ∨ c = 13) → ∀ x ∈ escC v c, allowed x = true := by decide +kernel
    exact this v c h1 h.2
  · unfold escC
    rw [if_neg (by omega), if_neg (by omega), if_neg (by omega), if_neg (by omega), if_neg (by omega)]
    intro x hx
    simp only [List.mem_singleton] at hx
    subst hx
    exact h.2.elim id fun e => by omega
theorem escs_allowed (v : Bool) (cs : Cs) (h : ∀ c ∈ cs, fine c) : ∀ x ∈ escs v cs, allowed x = true := fun x hx => by
  obtain ⟨c, hc, hx⟩ := List.mem_flatMap.1 hx
  exact escC_allowed v c (h c hc) x hx
/-- how a character is met in a text that is escaped -/
theorem escC_cases (v : Bool) (c : Nat) (q : Cs) : (∃ r, escC v c ++ q = 38 :: r ∧ reference (38 :: r) = .ok (c, q)) ∨ (escC v c = [c] ∧ c ≠ 60 ∧ c ≠ 38 ∧ c ≠ 62 ∧ c ≠ 34 ∧ c ≠ 13 ∧ (v = true → c ≠ 9 ∧ c ≠ 10)) := by
  by_cases h1 : c = 60
  · subst h1; exact .inl ⟨108 :: 116 :: 59 :: q, rfl, by simp [reference, pre, tLt]⟩
  by_cases h2 : c = 38
  · subst h2; exact .inl ⟨97 :: 109 :: 112 :: 59 :: q, rfl, by simp [reference, pre, tLt, tGt, tAmp]⟩
  by_cases h3 : c = 62
  · subst h3; exact .inl ⟨35 :: 54 :: 50 :: 59 :: q, rfl, by simp [reference, pre, tLt, tGt, tAmp, tQuot, tApos, number, numOf, hd, numGo, dig, allowed]⟩
  by_cases h4 : c = 34
  · subst h4; exact .inl ⟨35 :: 120 :: 50 :: 50 :: 59 :: q, rfl, by simp [reference, pre, tLt, tGt, tAmp, tQuot, tApos, number, numOf, hd, numGo, dig, allowed]⟩
  by_cases h5 : c = 13 ∨ (v = true ∧ (c = 9 ∨ c = 10))
  · left
    have e : escC v c = [38, 35, 48 + c / 10, 48 + c % 10, 59] := by unfold escC; rw [if_neg h1, if_neg h2, if_neg h3, if_neg h4, if_pos h5]
    rw [e]
    refine ⟨35 :: (48 + c / 10) :: (48 + c % 10) :: 59 :: q, rfl, ?_⟩
    rcases h5 with rfl | ⟨-, rfl | rfl⟩
    all_goals simp [reference, pre, tLt, tGt, tAmp, tQuot, tApos, number, numOf, hd, numGo, dig, allowed]
  · right
    refine ⟨by unfold escC; rw [if_neg h1, if_neg h2, if_neg h3, if_neg h4, if_neg h5], h1, h2, h3, h4, fun e => h5 (.inl e), fun hv => ⟨fun e => h5 (.inr ⟨hv, .inl e⟩), fun e => h5 (.inr ⟨hv, .inr e⟩)⟩⟩
theorem valGo_esc : ∀ (v : Cs) (f : Nat) (rest : Cs), (∀ c ∈ v, fine c) → v.length < f → valGo 34 f (escs true v ++ 34 :: rest) = .ok (v, rest)
  | [], f + 1, rest, _, _ => by
    show valGo 34 (f + 1) (34 :: rest) = _
    rw [valGo, if_pos rfl]
  | c :: v, f + 1, rest, h, hf => by
    have ih := valGo_esc v f rest (fun x hx => h x (by simp [hx])) (by simp at hf; omega)
    have e : escs true (c :: v) ++ 34 :: rest = escC true c ++ (escs true v ++ 34 :: rest) := by
      unfold escs; rw [List.flatMap_cons, List.append_assoc]
    rw [e]
    rcases escC_cases true c (escs true v ++ 34 :: rest) with ⟨r, h1, h2⟩ | ⟨h1, h60, h38, -, h34, h13, hb⟩
    · rw [h1, valGo, if_neg (by omega), if_neg (by omega), if_pos rfl, h2, and_ok, ih, and_ok]
    · have hbl : (if blank c = true then 32 else c) = c := by
        have h9 := hb rfl
        split
        · rename_i hh
          simp only [blank, decide_eq_true_eq] at hh
          omega
        · rfl
      rw [h1]
      show valGo 34 (f + 1) (c :: (escs true v ++ 34 :: rest)) = _
      rw [valGo, if_neg h34, if_neg h60, if_neg h38, ih, and_ok, hbl]
theorem pre_end : ∀ (xs rest : Cs), xs ≠ [] → (∀ x ∈ xs, x ≠ 62) → pre [93, 93, 62] (xs ++ 60 :: rest) = false
  | [], _, h, _ => absurd rfl h
  | [a], rest, _, h => by simp [pre]
  | [a, b], rest, _, h => by simp [pre]
  | a :: b :: c :: xs, rest, _, h => by
    have := h c (by simp)
    simp [pre, this]
theorem escC_no62 (v : Bool) (c : Nat) (h : fine c) : ∀ x ∈ escC v c, x ≠ 62 := by
  rcases Nat.lt_or_ge c 64 with h1 | h1
  · have : ∀ v : Bool, ∀ c : Nat, c < 64 → ∀ x ∈ escC v c, x ≠ 62 := by decide +kernel
    exact this v c h1
  · unfold escC
    rw [if_neg (by omega), if_neg (by omega), if_neg (by omega), if_neg (by omega), if_neg (by omega)]
    intro x hx
    simp only [List.mem_singleton] at hx
    omega
theorem escC_nil (v : Bool) (c : Nat) : escC v c ≠ [] := by
  unfold escC
  repeat' split
  all_goals simp
theorem chunkGo_esc : ∀ (s : Cs) (f : Nat) (rest : Cs), (∀ c ∈ s, fine c) → s.length < f → chunkGo f (escs false s ++ 60 :: rest) = .ok (s, 60 :: rest)
  | [], f + 1, rest, _, _ => by
    show chunkGo (f + 1) (60 :: rest) = _
    rw [chunkGo, if_pos rfl]
  | c :: s, f + 1, rest, h, hf => by
    have ih := chunkGo_esc s f rest (fun x hx => h x (by simp [hx])) (by simp at hf; omega)
    have e : escs false (c :: s) = escC false c ++ escs false s := by unfold escs; rw [List.flatMap_cons]
    have hp : pre [93, 93, 62] (escs false (c :: s) ++ 60 :: rest) = false := by
      refine pre_end _ rest (fun hn => ?_) fun x hx => ?_
      · rw [e] at hn; exact escC_nil false c (List.append_eq_nil_iff.1 hn).1
      · obtain ⟨y, hy, hx⟩ := List.mem_flatMap.1 hx
        exact escC_no62 false y (h y hy) x hx
    rw [e, List.append_assoc] at hp ⊢
    rcases escC_cases false c (escs false s ++ 60 :: rest) with ⟨r, h1, h2⟩ | ⟨h1, h60, h38, -⟩
    · rw [h1] at hp ⊢
      rw [chunkGo, if_neg (by omega), hp, if_neg (by simp), if_pos rfl, h2, and_ok, ih, and_ok]
    · rw [h1] at hp ⊢
      change pre [93, 93, 62] (c :: (escs false s ++ 60 :: rest)) = false at hp
      show chunkGo (f + 1) (c :: (escs false s ++ 60 :: rest)) = _
      rw [chunkGo, if_neg h60, hp, if_neg (by simp), if_neg h38, ih, and_ok]
/-- the document that a text and a value are put in -/
def docC (s v : Cs) : Cs := [60, 97, 32, 98, 61, 34] ++ (escs true v ++ [34, 62] ++ (escs false s ++ [60, 47, 97, 32, 62]))
def docB (s v : List UInt8) : List UInt8 := [60, 97, 32, 98, 61, 34] ++ (esc true v ++ [34, 62] ++ (esc false s ++ [60, 47, 97, 32, 62]))
theorem docB_narrow (s v : Cs) (hs : ∀ c ∈ s, fine c) (hv : ∀ c ∈ v, fine c) : docB (narrow s) (narrow v) = narrow (docC s v) := by
  unfold docB docC
  rw [narrow_append, narrow_append, narrow_append, narrow_append, esc_narrow true v fun c hc => (hv c hc).1, esc_narrow false s fun c hc => (hs c hc).1]
  rfl
theorem docC_allowed (s v : Cs) (hs : ∀ c ∈ s, fine c) (hv : ∀ c ∈ v, fine c) : ∀ c ∈ docC s v, allowed c = true := by
  intro c hc
  unfold docC at hc
  rcases List.mem_append.1 hc with h | hc
  · exact (show ∀ c ∈ ([60, 97, 32, 98, 61, 34] : Cs), allowed c = true by decide) c h
  rcases List.mem_append.1 hc with hc | hc
  · rcases List.mem_append.1 hc with h | h
    · exact escs_allowed true v hv c h
    · exact (show ∀ c ∈ ([34, 62] : Cs), allowed c = true by decide) c h
  · rcases List.mem_append.1 hc with h | h
    · exact escs_allowed false s hs c h
    · exact (show ∀ c ∈ ([60, 47, 97, 32, 62] : Cs), allowed c = true by decide) c h
theorem escs_len (v : Bool) (s : Cs) : s.length ≤ (escs v s).length := by
  induction s with
  | nil => simp [escs]
  | cons c s ih =>
    have e : escs v (c :: s) = escC v c ++ escs v s := by unfold escs; rw [List.flatMap_cons]
    have h := List.length_pos_iff.2 (escC_nil v c)
    rw [e, List.length_append, List.length_cons]; omega
theorem attrs_doc (v rest : Cs) (hv : ∀ c ∈ v, fine c) : ∃ k, attrs (32 :: 98 :: 61 :: 34 :: (escs true v ++ 34 :: 62 :: rest)) = .ok ([⟨[98], v, k⟩], 62 :: rest) := by
  refine ⟨(98 :: 61 :: 34 :: (escs true v ++ 34 :: 62 :: rest)).length, ?_⟩
  have hb : ∀ q, blanks (32 :: 98 :: q) = 98 :: q := fun q => by simp [blanks, blank]
  have hb1 : ∀ q, blanks (61 :: q) = 61 :: q := fun q => by simp [blanks, blank]
  have hb2 : ∀ q, blanks (34 :: q) = 34 :: q := fun q => by simp [blanks, blank]
  have hb3 : ∀ q, blanks (62 :: q) = 62 :: q := fun q => by simp [blanks, blank]
  have hn : ∀ q, name (98 :: 61 :: q) = .ok ([98], 61 :: q) := fun q => by simp [name, hd, begins, goesOn]
  have ht : ∀ q, takeC 61 (61 :: q) = .ok ((), q) := fun q => by simp [takeC]
  have hv' : value (34 :: (escs true v ++ 34 :: 62 :: rest)) = .ok (v, 62 :: rest) := by
    simp only [value, true_or, if_true]
    exact valGo_esc v _ (62 :: rest) hv (by have := escs_len true v; simp; omega)
  unfold attrs
  rw [show (32 :: 98 :: 61 :: 34 :: (escs true v ++ 34 :: 62 :: rest)).length + 1 = ((98 :: 61 :: 34 :: (escs true v ++ 34 :: 62 :: rest)).length + 1) + 1 from rfl, attrsGo, hb, if_pos ⟨by simp, by simp [hd, begins]⟩, hn, and_ok, hb1, ht, and_ok, hb2, hv', and_ok, List.length_cons, attrsGo, hb3, if_neg (by simp), and_ok]
theorem tag_doc (v rest : Cs) (hv : ∀ c ∈ v, fine c) : ∃ k n, tag (60 :: 97 :: 32 :: 98 :: 61 :: 34 :: (escs true v ++ 34 :: 62 :: rest)) = .ok (⟨1, [97], [⟨[98], v, k⟩], [], n, false⟩, rest) := by
  obtain ⟨k, hk⟩ := attrs_doc v rest hv
  have hn : ∀ q, name (97 :: 32 :: q) = .ok ([97], 32 :: q) := fun q => by simp [name, hd, begins, goesOn]
  have ht : takeC 62 (62 :: rest) = .ok ((), rest) := by simp [takeC]
  refine ⟨k, (60 :: 97 :: 32 :: 98 :: 61 :: 34 :: (escs true v ++ 34 :: 62 :: rest)).length, ?_⟩
  unfold tag
  rw [if_neg (by simp [hd])]
  rw [show (60 :: 97 :: 32 :: 98 :: 61 :: 34 :: (escs true v ++ 34 :: 62 :: rest)).drop 1 = 97 :: 32 :: 98 :: 61 :: 34 :: (escs true v ++ 34 :: 62 :: rest) from rfl, hn, and_ok, hk, and_ok, if_neg (by simp [hd]), ht, and_ok]
theorem tag_back : tag [60, 47, 97, 32, 62] = .ok (⟨2, [97], [], [], 5, false⟩, []) := by rfl
/-- THE TOKENS OF THAT DOCUMENT -/
theorem tokens_doc (s v : Cs) (hs : ∀ c ∈ s, fine c) (hv : ∀ c ∈ v, fine c) : ∃ k n b, tokens (docC s v) = .ok (⟨1, [97], [⟨[98], v, k⟩], [], n, false⟩ :: ((if s = [] then [] else [⟨3, [], [], s, b, false⟩]) ++ [⟨2, [97], [], [], 5, false⟩])) := by
  obtain ⟨k, n, h1⟩ := tag_doc v (escs false s ++ [60, 47, 97, 32, 62]) hv
  have e : docC s v = 60 :: 97 :: 32 :: 98 :: 61 :: 34 :: (escs true v ++ 34 :: 62 :: (escs false s ++ [60, 47, 97, 32, 62])) := by
    unfold docC; simp
  have hd1 : decl (docC s v) = .ok ((), docC s v) := by
    unfold decl; rw [e, if_neg (by simp [pre, tXml])]
  have htag : ∀ (f : Nat) (xs : Cs) (st : St) (c : Nat) (r : Cs), xs = 60 :: c :: r → c ≠ 63 → c ≠ 33 → allGo (f + 1) xs st = (tag xs).and fun t z => allGo f z ⟨st.flush.toks ++ [t], [], st.began⟩ := by
    intro f xs st c r hx h63 h33
    subst hx
    rw [allGo, if_neg (by simp), if_neg (by simp [pre, h63]), if_neg (by simp [pre, h33]), if_neg (by simp [pre, tCdata, h33]), if_neg (by simp [pre, tDoctype, h33]), if_neg (by simp [pre, h33]), if_pos (by simp [hd])]
  refine ⟨k, n, (escs false s ++ [60, 47, 97, 32, 62]).length, ?_⟩
  unfold tokens
  rw [hd1, and_ok]
  have hL : 10 ≤ (docC s v).length := by rw [e]; simp; omega
  obtain ⟨m, hm⟩ : ∃ m, (docC s v).length + 1 = m + 4 := ⟨(docC s v).length - 3, by omega⟩
  rw [hm, e, htag (m + 3) _ _ 97 _ rfl (by omega) (by omega), h1, and_ok]
  by_cases hs0 : s = []
  · subst hs0
    rw [if_pos rfl]
    show allGo (m + 2 + 1) [60, 47, 97, 32, 62] _ = _
    rw [htag (m + 2) _ _ 47 _ rfl (by omega) (by omega), tag_back, and_ok, allGo, if_pos rfl]
    rfl
  · rw [if_neg hs0]
    have hc := chunkGo_esc s ((escs false s ++ [60, 47, 97, 32, 62]).length + 1) [47, 97, 32, 62] hs (by have := escs_len false s; simp; omega)
    obtain ⟨c, s', rfl⟩ : ∃ c s', s = c :: s' := by cases s with
      | nil => exact absurd rfl hs0
      | cons c s' => exact ⟨c, s', rfl⟩
    obtain ⟨x, r, hx, hx60⟩ : ∃ x r, escs false (c :: s') ++ [60, 47, 97, 32, 62] = x :: r ∧ x ≠ 60 := by
      have e2 : escs false (c :: s') = escC false c ++ escs false s' := by unfold escs; rw [List.flatMap_cons]
      rcases escC_cases false c (escs false s' ++ [60, 47, 97, 32, 62]) with ⟨r, h, -⟩ | ⟨h, h60, -⟩
      · exact ⟨38, r, by rw [e2, List.append_assoc, h], by omega⟩
      · exact ⟨c, _, by rw [e2, h]; rfl, h60⟩
    have hstep : ∀ (f : Nat) (st : St), allGo (f + 1) (escs false (c :: s') ++ [60, 47, 97, 32, 62]) st = (chunk (escs false (c :: s') ++ [60, 47, 97, 32, 62])).and fun t z => allGo f z ((st.begin (escs false (c :: s') ++ [60, 47, 97, 32, 62]).length).say t) := by
      intro f st
      rw [hx, allGo, if_neg (by simp), if_neg (by simp [pre, hx60]), if_neg (by simp [pre, hx60]), if_neg (by simp [pre, tCdata, hx60]), if_neg (by simp [pre, tDoctype, hx60]), if_neg (by simp [pre, hx60]), if_neg (by simp [hd, hx60])]
    show allGo (m + 2 + 1) _ _ = _
    rw [hstep (m + 2)]
    unfold chunk
    rw [hc, and_ok]
    show allGo (m + 1 + 1) [60, 47, 97, 32, 62] _ = _
    rw [htag (m + 1) _ _ 47 _ rfl (by omega) (by omega), tag_back, and_ok, allGo, if_pos rfl]
    simp [St.flush, St.begin, St.say]
/-- THE WHOLE ANSWER -/
theorem whole_doc (s v : Cs) (hs : ∀ c ∈ s, fine c) (hv : ∀ c ∈ v, fine c) (hl : (docB (narrow s) (narrow v)).length ≤ 65536) : ∃ k n b m, whole (docB (narrow s) (narrow v)) = .ok (⟨1, [97], [⟨[98], narrow v, k⟩], [], n, false⟩ :: ((if s = [] then [] else [⟨3, [], [], narrow s, b, false⟩]) ++ [⟨2, [97], [], [], m, false⟩])) := by
  obtain ⟨k, n, b, h⟩ := tokens_doc s v hs hv
  have hr : read (docB (narrow s) (narrow v)) = (docC s v, 0) := by
    rw [docB_narrow s v hs hv]
    exact read_narrow _ (docC_allowed s v hs hv)
  refine ⟨place (docC s v) ((docC s v).length - k), place (docC s v) ((docC s v).length - n), place (docC s v) ((docC s v).length - b), place (docC s v) ((docC s v).length - 5), ?_⟩
  unfold whole
  rw [if_neg (by omega), hr]
  simp only [ne_eq, not_true_eq_false, if_false]
  rw [h]
  simp only [List.map_cons, List.map_append, List.map_nil, Tok.fin, Attr.fin]
  split <;> rfl
end Tk
end Go.Proofs.YtaknfofppknloaaDoor
