/- Layer 2, in plain words: remarks ahead of tags change nothing but places. Layer 2, in plain words: remarks ahead of tags, in a document's bytes. -/
import Derived.Test.YtigfcchblfnnbaaGreatDoorTpA
namespace Go.Proofs.YtigfcchblfnnbaaGreatDoor
open Go Go.RowKit
set_option linter.all false
namespace Tk
/-- does a declaration stand here? -/
def fires (cs : Cs) : Bool := pre tXml cs && hd blank (cs.drop 5)
theorem hd_mono {p : Nat → Bool} {a : Cs} (b : Cs) (h : hd p a = true) : hd p (a ++ b) = true := by
  cases a with
  | nil => cases h
  | cons c a => exact h
/-- the scanner comes to what stands behind pc, whatever that is -/
def Reach (D : Cs → Prop) (pc xs : Cs) : Prop := ∀ y, (hd (fun c => c == 60) y = true ∨ (hd (fun c => c == 60) xs = false ∧ xs ≠ [])) → D (pc ++ y) → ∃ f st, y.length < f ∧ tokens (pc ++ y) = allGo f y st
theorem Reach.next {D : Cs → Prop} {pc p xs z : Cs} (h : Reach D pc xs) (hx : xs = p ++ z) (hp : hd (fun c => c == 60) p = true)
    (k : ∀ y f st, (p ++ y).length < f → ∃ f' st', y.length < f' ∧ allGo f (p ++ y) st = allGo f' y st') : Reach D (pc ++ p) z := by
  intro y _ hD
  rw [List.append_assoc] at hD ⊢
  obtain ⟨f, st, h1, h2⟩ := h (p ++ y) (.inl (hd_mono y hp)) hD
  obtain ⟨f', st', h3, h4⟩ := k y f st h1
  exact ⟨f', st', h3, h2.trans h4⟩
theorem allGo_chunk (f : Nat) (xs : Cs) (st : St) (hx : xs ≠ []) (h : hd (fun c => c == 60) xs = false) : allGo (f + 1) xs st = (chunk xs).and fun t z => allGo f z ((st.begin xs.length).say t) := by
  cases xs with
  | nil => exact absurd rfl hx
  | cons c r =>
    have hc : c ≠ 60 := by simpa [hd] using h
    rw [allGo, if_neg hx, if_neg (by simp [pre, hc]), if_neg (by simp [pre, hc]), if_neg (by simp [pre, tCdata, hc]), if_neg (by simp [pre, tDoctype, hc]), if_neg (by simp [pre, hc]), if_neg (by simp [h])]
theorem allGo_tag (f : Nat) (r : Cs) (st : St) (h : hd (fun d => d == 33 || d == 63) r = false) : allGo (f + 1) (60 :: r) st = (tag (60 :: r)).and fun t z => allGo f z ⟨st.flush.toks ++ [t], [], st.began⟩ := by
  cases r with
  | nil => rw [allGo, if_neg (by simp), if_neg (by simp [pre]), if_neg (by simp [pre]), if_neg (by simp [pre, tCdata]), if_neg (by simp [pre, tDoctype]), if_neg (by simp [pre]), if_pos (by simp [hd])]
  | cons c r =>
    have h1 : c ≠ 33 ∧ c ≠ 63 := by simpa [hd] using h
    rw [allGo, if_neg (by simp), if_neg (by simp [pre, h1]), if_neg (by simp [pre, h1]), if_neg (by simp [pre, tCdata, h1]), if_neg (by simp [pre, tDoctype, h1]), if_neg (by simp [pre, h1]), if_pos (by simp [hd])]
theorem allGo_instr (f : Nat) (xs : Cs) (st : St) (h : pre [60, 63] xs = true) : allGo (f + 1) xs st = (instr xs).and fun _ z => allGo f z st := by
  rw [allGo, if_neg (by rintro rfl; simp [pre] at h), if_pos h]
theorem pre_bang {xs : Cs} (h : pre [60, 33] xs = true) : pre [60, 63] xs = false := by
  rw [pre_split h]; simp [pre]
theorem pre_bang2 {t : List Nat} {xs : Cs} (h : pre (60 :: 33 :: t) xs = true) : pre [60, 63] xs = false ∧ pre [60, 33] xs = true := by
  rw [pre_split h]; simp [pre]
theorem allGo_comment (f : Nat) (xs : Cs) (st : St) (h : pre [60, 33, 45, 45] xs = true) : allGo (f + 1) xs st = (comment xs).and fun _ z => allGo f z st := by
  rw [allGo, if_neg (by rintro rfl; simp [pre] at h), (pre_bang2 h).1, if_neg (by simp), if_pos h]
theorem pre_cd {xs : Cs} (h : pre tCdata xs = true) : pre [60, 33, 45, 45] xs = false := by
  rw [pre_split h]; simp [pre, tCdata]
theorem allGo_cdata (f : Nat) (xs : Cs) (st : St) (h : pre tCdata xs = true) : allGo (f + 1) xs st = (untilT [93, 93, 62] (xs.drop 9)).and fun t z => allGo f z ((st.begin xs.length).say t) := by
  rw [allGo, if_neg (by rintro rfl; simp [pre, tCdata] at h), (pre_bang2 h).1, if_neg (by simp), pre_cd h, if_neg (by simp), if_pos h]
theorem allGo_other (f : Nat) (xs : Cs) (st : St) (h : pre [60, 33] xs = true) (h1 : pre [60, 33, 45, 45] xs = false) (h2 : pre tCdata xs = false) (ts : List Tok) : allGo (f + 1) xs st ≠ .ok ts := by
  rw [allGo, if_neg (by rintro rfl; simp [pre] at h), pre_bang h, if_neg (by simp), h1, if_neg (by simp), h2, if_neg (by simp)]
  rw [if_pos h]
  split <;> (intro e; cases e)
theorem cdata_ext {xs a q : Cs} (hx : pre tCdata xs = true) (h : untilT [93, 93, 62] (xs.drop 9) = .ok (a, q)) : ∃ p, xs = p ++ q ∧ 62 ∈ p ∧ pre tCdata p = true ∧ ∀ y, untilT [93, 93, 62] ((p ++ y).drop 9) = .ok (a, y) := by
  have hs := pre_split hx
  have h9 : tCdata.length = 9 := rfl
  rw [h9] at hs
  obtain ⟨i1, i2⟩ := until_ext _ (by simp) _ _ _ h
  refine ⟨tCdata ++ (a ++ [93, 93, 62]), ?_, by simp, pre_self _ _, fun y => ?_⟩
  · conv => lhs; rw [hs, i1]
    simp
  · have s0 : (tCdata ++ (a ++ [93, 93, 62]) ++ y).drop 9 = a ++ ([93, 93, 62] ++ y) := by
      rw [List.append_assoc, ← h9, List.drop_left]; simp
    rw [s0]
    exact i2 y
/-- two states that are the same but for places -/
structure Like (a b : St) : Prop where
  toks : a.toks.map Tok.bare = b.toks.map Tok.bare
  text : a.text = b.text
theorem Like.flush {a b : St} (h : Like a b) : a.flush.toks.map Tok.bare = b.flush.toks.map Tok.bare := by
  unfold St.flush
  rw [h.text]
  split
  · exact h.toks
  · simp only [List.map_append, h.toks, List.map_cons, List.map_nil]
    rfl
theorem Like.say {a b : St} (h : Like a b) (n m : Nat) (t : Cs) : Like ((a.begin n).say t) ((b.begin m).say t) := by
  have e : ∀ (s : St) (k : Nat), ((s.begin k).say t).toks = s.toks ∧ ((s.begin k).say t).text = s.text ++ t := fun s k => by
    unfold St.begin St.say; split <;> exact ⟨rfl, rfl⟩
  exact ⟨by rw [(e a n).1, (e b m).1, h.toks], by rw [(e a n).2, (e b m).2, h.text]⟩
theorem Like.tag {a b : St} (h : Like a b) {s t : Tok} (e : s.bare = t.bare) (n m : Nat) : Like ⟨a.flush.toks ++ [s], [], n⟩ ⟨b.flush.toks ++ [t], [], m⟩ :=
  ⟨by simp only [List.map_append, h.flush, List.map_cons, List.map_nil, e], rfl⟩
end Tk
end Go.Proofs.YtigfcchblfnnbaaGreatDoor
namespace Go.Proofs.YtigfcchblfnnbaaGreatDoor
open Go Go.RowKit
set_option linter.all false
namespace Tk
theorem decl_no {cs : Cs} (h : fires cs = false) : decl cs = .ok ((), cs) := by
  unfold fires at h
  unfold decl
  rw [h, if_neg (by simp)]
/-- bytes that read as characters -/
inductive RdBy : List UInt8 → Cs → Prop
  | nil : RdBy [] []
  | chr (c : Nat) (t : List UInt8) (cs : Cs) : allowed c = true → RdBy t cs → RdBy (enc c ++ t) (c :: cs)
  | crlf (t : List UInt8) (cs : Cs) : RdBy t cs → RdBy (13 :: 10 :: t) (10 :: cs)
  | cr (t : List UInt8) (cs : Cs) : by8 t 0 ≠ 10 → RdBy t cs → RdBy (13 :: t) (10 :: cs)
theorem RdBy.read {l : List UInt8} {cs : Cs} (h : RdBy l cs) : rdA l = (cs, 0) := by
  induction h with
  | nil => rfl
  | chr c t cs hc _ ih => rw [rdA_char c t (allowed_okc' hc) (allowed_ne13 hc), if_pos hc, ih]
  | crlf t cs _ ih =>
    rw [rdA_cr]
    have e : (10 :: t).drop (if by8 (10 :: t) 0 = 10 then 1 else 0) = t := by rw [if_pos (by simp [by8])]; rfl
    rw [e, ih]
  | cr t cs h _ ih => rw [rdA_cr, if_neg h, List.drop_zero, ih]
theorem RdBy.of : ∀ (n : Nat) (l : List UInt8), l.length ≤ n → (rdA l).2 = 0 → RdBy l (rdA l).1
  | _, [], _, _ => .nil
  | 0, b :: l, h, _ => by simp at h
  | n + 1, b :: l, hn, h => by
    simp only [List.length_cons] at hn
    rcases first_char b l with h1 | ⟨c, t, h1, h2⟩
    · rw [rdA_bad h1] at h; cases h
    have hl : t.length ≤ n := by
      have := congrArg List.length h2
      have h3 := enc_pos c
      simp at this; omega
    by_cases hc : c = 13
    · subst hc
      have e13 : enc 13 = [13] := by decide
      rw [e13] at h2
      change b :: l = 13 :: t at h2
      rw [h2] at h ⊢
      rw [rdA_cr] at h ⊢
      by_cases h10 : by8 t 0 = 10
      · rw [if_pos h10] at h ⊢
        cases t with
        | nil => simp [by8] at h10
        | cons x t =>
          have hx : x = 10 := by
            have : x.toNat = 10 := by simpa [by8] using h10
            exact UInt8.toNat_inj.1 this
          subst hx
          simp only [List.drop_succ_cons, List.drop_zero] at h ⊢
          exact .crlf t _ (RdBy.of n t (by simp at hl; omega) h)
      · rw [if_neg h10, List.drop_zero] at h ⊢
        exact .cr t _ h10 (RdBy.of n t hl h)
    · rw [h2, rdA_char c t h1 hc] at h ⊢
      split at h
      · rename_i ha
        rw [if_pos ha]
        exact .chr c t _ ha (RdBy.of n t hl h)
      · cases h
theorem by8_high {c : Nat} (t : List UInt8) (h : 128 ≤ c) (h2 : okc c) : 128 ≤ by8 (enc c ++ t) 0 := by
  obtain ⟨b, m, hb⟩ := enc_cons c
  have := enc_up h h2 b (by rw [hb]; simp)
  rw [hb]
  simpa [by8] using this
theorem by8_low {c : Nat} (t : List UInt8) (h : c < 128) : by8 (enc c ++ t) 0 = c := by
  rw [enc_dn h]
  show (UInt8.ofNat c).toNat = c
  rw [UInt8.toNat_ofNat']; omega
theorem RdBy.head {l : List UInt8} {cs : Cs} (h : RdBy l cs) (k : Nat) (hk : 13 < k) (hk2 : k < 128) : (by8 l 0 == k) = hd (fun d => d == k) cs := by
  cases h with
  | nil => simp [by8, hd]; omega
  | chr c t cs hc _ =>
    rcases Nat.lt_or_ge c 128 with h1 | h1
    · rw [by8_low t h1]; rfl
    · have := by8_high t h1 (allowed_okc' hc)
      have e1 : (by8 (enc c ++ t) 0 == k) = false := by rw [beq_eq_false_iff_ne]; omega
      have e2 : (c == k) = false := by rw [beq_eq_false_iff_ne]; omega
      rw [e1]; exact e2.symm
  | crlf t cs _ =>
    have e1 : by8 (13 :: 10 :: t) 0 = 13 := by simp [by8]
    rw [e1]
    have e2 : (13 == k) = false := by rw [beq_eq_false_iff_ne]; omega
    have e3 : (10 == k) = false := by rw [beq_eq_false_iff_ne]; omega
    rw [e2]; exact e3.symm
  | cr t cs _ _ =>
    have e1 : by8 (13 :: t) 0 = 13 := by simp [by8]
    rw [e1]
    have e2 : (13 == k) = false := by rw [beq_eq_false_iff_ne]; omega
    have e3 : (10 == k) = false := by rw [beq_eq_false_iff_ne]; omega
    rw [e2]; exact e3.symm
theorem hd_or (p q : Nat → Bool) (cs : Cs) : hd (fun d => p d || q d) cs = (hd p cs || hd q cs) := by cases cs <;> rfl
theorem RdBy.app {D : Cs} (hD : ∀ c ∈ D, allowed c = true) {t : List UInt8} {cs : Cs} (h : RdBy t cs) : RdBy (narrow D ++ t) (D ++ cs) := by
  induction D with
  | nil => exact h
  | cons c D ih =>
    have e : narrow (c :: D) ++ t = enc c ++ (narrow D ++ t) := by simp [narrow]
    rw [e]
    exact .chr c _ _ (hD c (by simp)) (ih fun x hx => hD x (by simp [hx]))
theorem whole_of_read {l : List UInt8} {cs : Cs} {ts : List TokV} (hr : rdA l = (cs, 0)) (h : whole l = .ok ts) : ∃ us, tokens cs = .ok us ∧ ts = us.map (Tok.fin cs) := by
  unfold whole at h
  rw [read_rdA, hr] at h
  split at h
  · cases h
  simp only [ne_eq, not_true_eq_false, if_false] at h
  rcases h1 : tokens cs with ⟨k, e⟩ | us
  · rw [h1] at h; cases h
  · rw [h1] at h; cases h; exact ⟨us, rfl, rfl⟩
/-- a token, but for its place -/
def TokV.bare (t : TokV) : Nat × List UInt8 × List (List UInt8 × List UInt8) × List UInt8 × Bool := (t.kind, t.nm, t.attrs.map (fun a => (a.nm, a.val)), t.text, t.empty)
theorem fin_bare (cs : Cs) (t : Tok) : (t.fin cs).bare = (t.bare.1, narrow t.bare.2.1, t.bare.2.2.1.map (fun a => (narrow a.1, narrow a.2)), narrow t.bare.2.2.2.1, t.bare.2.2.2.2) := by
  simp [Tok.fin, TokV.bare, Tok.bare, Attr.fin, Attr.bare, List.map_map, Function.comp_def]
end Tk
end Go.Proofs.YtigfcchblfnnbaaGreatDoor
