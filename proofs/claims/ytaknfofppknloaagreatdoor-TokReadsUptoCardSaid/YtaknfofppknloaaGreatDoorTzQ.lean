/- Layer 2, in plain words: remarks ahead of tags change nothing but places. Layer 2, in plain words: remarks ahead of tags, in a document's bytes. Equality of structs, field by field, by value. Equality of places. errors.As at a variable of the kind api.Errno, and the error of that kind: it is found. After the kit's worked text ToyasAs. errors.As at the variables of api.Tell: a fault is found as a fault; what it comes of is found behind it. After the kit's worked texts ToyasAs and Nf8IsFacts. api.Tell: which number an error comes of, and its place. Tokens as they are read; the document's Same, at what is the same. The document's Same, at lists that are the same. Tokens, Tell and Same as the laws call them; awake. -/
import Derived.Test.YtaknfofppknloaaGreatDoorTzP
import Derived.Test.YtaknfofppknloaaGreatDoorBase
import Derived.Laws.StructEq
import Derived.Test.YtaknfofppknloaaGreatDoorProg
import Derived.WalkKit
import Derived.LaidEql
import Derived.Stop.Asserts
import Derived.RowKitTokens
import Derived.Test.YtaknfofppknloaaGreatDoorTk1
import Derived.Test.YtaknfofppknloaaGreatDoorTk19
namespace Go.Proofs.YtaknfofppknloaaGreatDoor
open Go Go.RowKit
set_option linter.all false
namespace Tk
def remC : Cs := [60, 33, 45, 45, 32, 60, 97, 62, 32, 45, 32, 38, 32, 45, 45, 62]
def remP : Cs := [60, 63, 112, 105, 32, 60, 98, 62, 32, 63, 62]
def remA : Cs := remC ++ remP
/-- is this character within a remark or a section? -/
def isIn (i : Bool) (c : Nat) (r : Cs) : Bool := i || (c == 60 && hd (fun d => d == 33 || d == 63) r)
/-- remarks put in ahead of tags -/
def ins : Bool → Cs → Cs
  | _, [] => []
  | i, c :: r => if isIn i c r then c :: ins (!(c == 62)) r else (if c = 60 then remA else []) ++ c :: ins false r
/-- what was looked at on the way -/
def ChkC : Bool → Cs → Cs → Prop
  | _, _, [] => True
  | i, pc, c :: r => if isIn i c r then (c = 62 → ∃ ts, tokens (pc ++ [62]) = .ok ts) ∧ ChkC (!(c == 62)) (pc ++ [c]) r else ChkC false (pc ++ [c]) r
theorem ins_plain : ∀ (p y : Cs), (∀ c ∈ p, c ≠ 60) → ins false (p ++ y) = p ++ ins false y
  | [], y, _ => rfl
  | c :: p, y, h => by
    have hc := h c (by simp)
    have ih := ins_plain p y fun x hx => h x (by simp [hx])
    rw [List.cons_append, ins, if_neg (by simp [isIn, hc]), if_neg hc, ih]
    rfl
theorem chk_plain : ∀ (p y pc : Cs), (∀ c ∈ p, c ≠ 60) → ChkC false pc (p ++ y) → ChkC false (pc ++ p) y
  | [], y, pc, _, k => by simpa using k
  | c :: p, y, pc, h, k => by
    have hc := h c (by simp)
    rw [List.cons_append, ChkC, if_neg (by simp [isIn, hc])] at k
    have := chk_plain p y (pc ++ [c]) (fun x hx => h x (by simp [hx])) k
    simpa using this
theorem ins_in : ∀ (m y : Cs), 62 ∉ m → ins true (m ++ 62 :: y) = m ++ 62 :: ins false y
  | [], y, _ => by
    show ins true (62 :: y) = _
    rw [ins, if_pos (by simp [isIn])]
    rfl
  | c :: m, y, h => by
    have hc : c ≠ 62 := fun e => h (by simp [e])
    have ih := ins_in m y fun hm => h (by simp [hm])
    rw [List.cons_append, ins, if_pos (by simp [isIn]), show (!(c == 62)) = true by simp [hc], ih]
    rfl
theorem chk_in : ∀ (m y pc : Cs), 62 ∉ m → ChkC true pc (m ++ 62 :: y) → (∃ ts, tokens (pc ++ (m ++ [62])) = .ok ts) ∧ ChkC false (pc ++ (m ++ [62])) y
  | [], y, pc, _, k => by
    change ChkC true pc (62 :: y) at k
    rw [ChkC, if_pos (by simp [isIn])] at k
    exact ⟨k.1 rfl, k.2⟩
  | c :: m, y, pc, h, k => by
    have hc : c ≠ 62 := fun e => h (by simp [e])
    rw [List.cons_append, ChkC, if_pos (by simp [isIn]), show (!(c == 62)) = true by simp [hc]] at k
    have := chk_in m y (pc ++ [c]) (fun hm => h (by simp [hm])) k.2
    simpa using this
/-- does a declaration stand here? -/
def fires (cs : Cs) : Bool := pre tXml cs && hd blank (cs.drop 5)
theorem hd_mono {p : Nat → Bool} {a : Cs} (b : Cs) (h : hd p a = true) : hd p (a ++ b) = true := by
  cases a with
  | nil => cases h
  | cons c a => exact h
theorem fires_mono {a : Cs} (b : Cs) (h : fires a = true) : fires (a ++ b) = true := by
  unfold fires at h ⊢
  simp only [Bool.and_eq_true] at h ⊢
  have h5 := pre_le h.1
  refine ⟨pre_app b h.1, ?_⟩
  rw [List.drop_append_of_le_length (by simpa [tXml] using h5)]
  exact hd_mono b h.2
/-- the scanner comes to what stands behind pc, whatever that is -/
def Reach (D : Cs → Prop) (pc xs : Cs) : Prop := ∀ y, (hd (fun c => c == 60) y = true ∨ (hd (fun c => c == 60) xs = false ∧ xs ≠ [])) → D (pc ++ y) → ∃ f st, y.length < f ∧ tokens (pc ++ y) = allGo f y st
theorem Reach.next {D : Cs → Prop} {pc p xs z : Cs} (h : Reach D pc xs) (hx : xs = p ++ z) (hp : hd (fun c => c == 60) p = true)
    (k : ∀ y f st, (p ++ y).length < f → ∃ f' st', y.length < f' ∧ allGo f (p ++ y) st = allGo f' y st') : Reach D (pc ++ p) z := by
  intro y _ hD
  rw [List.append_assoc] at hD ⊢
  obtain ⟨f, st, h1, h2⟩ := h (p ++ y) (.inl (hd_mono y hp)) hD
  obtain ⟨f', st', h3, h4⟩ := k y f st h1
  exact ⟨f', st', h3, h2.trans h4⟩
theorem allGo_chunk (f : Nat) (xs : Cs) (st : St) (hx : xs ≠ []) (h : hd (fun c => c == 60) xs = false) : allGo (f + 1) xs st = (chunk xs).and fun t z => allGo f z ((st.begin xs.length).say t) := by
  cases xs with
  | nil => exact absurd rfl hx
  | cons c r =>
    have hc : c ≠ 60 := by simpa [hd] using h
    rw [allGo, if_neg hx, if_neg (by simp [pre, hc]), if_neg (by simp [pre, hc]), if_neg (by simp [pre, tCdata, hc]), if_neg (by simp [pre, tDoctype, hc]), if_neg (by simp [pre, hc]), if_neg (by simp [h])]
theorem allGo_tag (f : Nat) (r : Cs) (st : St) (h : hd (fun d => d == 33 || d == 63) r = false) : allGo (f + 1) (60 :: r) st = (tag (60 :: r)).and fun t z => allGo f z ⟨st.flush.toks ++ [t], [], st.began⟩ := by
  cases r with
  | nil => rw [allGo, if_neg (by simp), if_neg (by simp [pre]), if_neg (by simp [pre]), if_neg (by simp [pre, tCdata]), if_neg (by simp [pre, tDoctype]), if_neg (by simp [pre]), if_pos (by simp [hd])]
  | cons c r =>
    have h1 : c ≠ 33 ∧ c ≠ 63 := by simpa [hd] using h
    rw [allGo, if_neg (by simp), if_neg (by simp [pre, h1]), if_neg (by simp [pre, h1]), if_neg (by simp [pre, tCdata, h1]), if_neg (by simp [pre, tDoctype, h1]), if_neg (by simp [pre, h1]), if_pos (by simp [hd])]
theorem allGo_instr (f : Nat) (xs : Cs) (st : St) (h : pre [60, 63] xs = true) : allGo (f + 1) xs st = (instr xs).and fun _ z => allGo f z st := by
  rw [allGo, if_neg (by rintro rfl; simp [pre] at h), if_pos h]
theorem pre_bang {xs : Cs} (h : pre [60, 33] xs = true) : pre [60, 63] xs = false := by
  rw [pre_split h]; simp [pre]
theorem pre_bang2 {t : List Nat} {xs : Cs} (h : pre (60 :: 33 :: t) xs = true) : pre [60, 63] xs = false ∧ pre [60, 33] xs = true := by
  rw [pre_split h]; simp [pre]
theorem allGo_comment (f : Nat) (xs : Cs) (st : St) (h : pre [60, 33, 45, 45] xs = true) : allGo (f + 1) xs st = (comment xs).and fun _ z => allGo f z st := by
  rw [allGo, if_neg (by rintro rfl; simp [pre] at h), (pre_bang2 h).1, if_neg (by simp), if_pos h]
theorem pre_cd {xs : Cs} (h : pre tCdata xs = true) : pre [60, 33, 45, 45] xs = false := by
  rw [pre_split h]; simp [pre, tCdata]
theorem allGo_cdata (f : Nat) (xs : Cs) (st : St) (h : pre tCdata xs = true) : allGo (f + 1) xs st = (untilT [93, 93, 62] (xs.drop 9)).and fun t z => allGo f z ((st.begin xs.length).say t) := by
  rw [allGo, if_neg (by rintro rfl; simp [pre, tCdata] at h), (pre_bang2 h).1, if_neg (by simp), pre_cd h, if_neg (by simp), if_pos h]
theorem allGo_other (f : Nat) (xs : Cs) (st : St) (h : pre [60, 33] xs = true) (h1 : pre [60, 33, 45, 45] xs = false) (h2 : pre tCdata xs = false) (ts : List Tok) : allGo (f + 1) xs st ≠ .ok ts := by
  rw [allGo, if_neg (by rintro rfl; simp [pre] at h), pre_bang h, if_neg (by simp), h1, if_neg (by simp), h2, if_neg (by simp)]
  rw [if_pos h]
  split <;> (intro e; cases e)
theorem cdata_ext {xs a q : Cs} (hx : pre tCdata xs = true) (h : untilT [93, 93, 62] (xs.drop 9) = .ok (a, q)) : ∃ p, xs = p ++ q ∧ 62 ∈ p ∧ pre tCdata p = true ∧ ∀ y, untilT [93, 93, 62] ((p ++ y).drop 9) = .ok (a, y) := by
  have hs := pre_split hx
  have h9 : tCdata.length = 9 := rfl
  rw [h9] at hs
  obtain ⟨i1, i2⟩ := until_ext _ (by simp) _ _ _ h
  refine ⟨tCdata ++ (a ++ [93, 93, 62]), ?_, by simp, pre_self _ _, fun y => ?_⟩
  · conv => lhs; rw [hs, i1]
    simp
  · have s0 : (tCdata ++ (a ++ [93, 93, 62]) ++ y).drop 9 = a ++ ([93, 93, 62] ++ y) := by
      rw [List.append_assoc, ← h9, List.drop_left]; simp
    rw [s0]
    exact i2 y
theorem split62 : ∀ (p : Cs), 62 ∈ p → ∃ m w, p = m ++ 62 :: w ∧ 62 ∉ m
  | [], h => by cases h
  | c :: p, h => by
    by_cases hc : c = 62
    · exact ⟨[], p, by rw [hc]; rfl, by simp⟩
    · obtain ⟨m, w, h1, h2⟩ := split62 p (by rcases List.mem_cons.1 h with e | e; exact absurd e.symm hc; exact e)
      exact ⟨c :: m, w, by rw [h1]; rfl, by simp [h2, Ne.symm hc]⟩
theorem only62 {m p z : Cs} (h : m ++ [62] = p ++ z) (hm : 62 ∉ m) (hp : 62 ∈ p) : z = [] ∧ p = m ++ [62] := by
  rcases List.eq_nil_or_concat z with rfl | ⟨z', c, rfl⟩
  · simp at h; exact ⟨rfl, h.symm⟩
  · exfalso
    have h' : m ++ [62] = (p ++ z') ++ [c] := by rw [h]; simp
    have := (List.append_inj' h' rfl).1
    exact hm (by rw [this]; simp [hp])
/-- a part that ends with the first > -/
theorem first62 {α : Type} (t : List Nat) (ht : 62 ∉ t) (F : Cs → R α)
    (hF : ∀ xs a q, pre t xs = true → F xs = .ok (a, q) → ∃ p, xs = p ++ q ∧ 62 ∈ p ∧ pre t p = true ∧ ∀ y, F (p ++ y) = .ok (a, y))
    {xs q : Cs} {a : α} (hx : pre t xs = true) (h : F xs = .ok (a, q))
    (k : ∀ m w, xs = m ++ 62 :: w → 62 ∉ m → pre t (m ++ [62]) = true → ∃ a' q', F (m ++ [62]) = .ok (a', q')) :
    ∃ m, xs = m ++ 62 :: q ∧ 62 ∉ m ∧ pre t (m ++ [62]) = true ∧ ∀ y, F (m ++ 62 :: y) = .ok (a, y) := by
  obtain ⟨p, h1, h2, h3, h4⟩ := hF xs a q hx h
  obtain ⟨m, w, e1, e2⟩ := split62 p h2
  have hpm : pre t (m ++ [62]) = true := by
    have hl : t.length ≤ m.length := by
      rcases Nat.lt_or_ge m.length t.length with g | g
      · exfalso
        have hs := pre_split h3
        rw [e1] at hs
        have g1 : (m ++ 62 :: w)[m.length]? = (t ++ (m ++ 62 :: w).drop t.length)[m.length]? := congrArg (fun l => l[m.length]?) hs
        rw [List.getElem?_append_right (Nat.le_refl _), Nat.sub_self, List.getElem?_append_left g] at g1
        exact ht (List.mem_of_getElem? g1.symm)
      · exact g
    have h5 : pre t (m ++ 62 :: w) = true := by rw [← e1]; exact h3
    rw [pre_same [62] (62 :: w) hl]
    exact h5
  have exs : xs = m ++ 62 :: (w ++ q) := by rw [h1, e1]; simp
  obtain ⟨a', q', g1⟩ := k m (w ++ q) exs e2 hpm
  obtain ⟨p', i1, i2, i3, i4⟩ := hF _ a' q' hpm g1
  obtain ⟨rfl, rfl⟩ := only62 i1 e2 i2
  have g2 := i4 (w ++ q)
  rw [List.append_assoc, List.singleton_append, ← exs, h] at g2
  obtain ⟨rfl, g3⟩ := Prod.mk.inj (Except.ok.inj g2)
  have hw : w = [] := by
    have := congrArg List.length g3
    simp at this
    exact this
  subst hw
  refine ⟨m, by rw [exs]; rfl, e2, hpm, fun y => ?_⟩
  have := i4 y
  rw [List.append_assoc, List.singleton_append] at this
  exact this
/-- two states that are the same but for places -/
structure Like (a b : St) : Prop where
  toks : a.toks.map Tok.bare = b.toks.map Tok.bare
  text : a.text = b.text
theorem Like.flush {a b : St} (h : Like a b) : a.flush.toks.map Tok.bare = b.flush.toks.map Tok.bare := by
  unfold St.flush
  rw [h.text]
  split
  · exact h.toks
  · simp only [List.map_append, h.toks, List.map_cons, List.map_nil]
    rfl
theorem Like.say {a b : St} (h : Like a b) (n m : Nat) (t : Cs) : Like ((a.begin n).say t) ((b.begin m).say t) := by
  have e : ∀ (s : St) (k : Nat), ((s.begin k).say t).toks = s.toks ∧ ((s.begin k).say t).text = s.text ++ t := fun s k => by
    unfold St.begin St.say; split <;> exact ⟨rfl, rfl⟩
  exact ⟨by rw [(e a n).1, (e b m).1, h.toks], by rw [(e a n).2, (e b m).2, h.text]⟩
theorem Like.tag {a b : St} (h : Like a b) {s t : Tok} (e : s.bare = t.bare) (n m : Nat) : Like ⟨a.flush.toks ++ [s], [], n⟩ ⟨b.flush.toks ++ [t], [], m⟩ :=
  ⟨by simp only [List.map_append, h.flush, List.map_cons, List.map_nil, e], rfl⟩
theorem comment_rem (y : Cs) : comment (remC ++ y) = .ok ((), y) := by
  obtain ⟨p, h1, h2, h3, h4⟩ := comment_ext (xs := remC) (q := []) (u := ()) (by decide) (by rfl)
  rw [List.append_nil] at h1
  rw [h1]; exact h4 y
theorem instr_rem (y : Cs) : instr (remP ++ y) = .ok ((), y) := by
  obtain ⟨p, h1, h2, h3, h4⟩ := instr_ext (xs := remP) (q := []) (u := ()) (by decide) (by rfl)
  rw [List.append_nil] at h1
  rw [h1]; exact h4 y
theorem ins_len : ∀ (i : Bool) (xs : Cs), xs.length ≤ (ins i xs).length
  | _, [] => Nat.le_refl _
  | i, c :: r => by
    rw [ins]
    split
    · have := ins_len (!(c == 62)) r; simp; omega
    · have := ins_len false r; simp; omega
set_option maxHeartbeats 1000000 in
/-- REMARKS CHANGE NOTHING, from place to place -/
theorem allGo_ins (D : Cs → Prop) (hD : ∀ a b, D (a ++ b) → D a) : ∀ (f : Nat) (pc xs : Cs) (st st2 : St) (ts : List Tok) (g : Nat), allGo f xs st = .ok ts → ChkC false pc xs → D (pc ++ xs) → Reach D pc xs → Like st st2 → (ins false xs).length < g →
    ∃ ts2, allGo g (ins false xs) st2 = .ok ts2 ∧ ts2.map Tok.bare = ts.map Tok.bare
  | 0, pc, xs, st, st2, ts, g, h, _, _, _, _, _ => by rw [allGo] at h; cases h
  | f + 1, pc, xs, st, st2, ts, g, h, hC, hDx, hR, hL, hg => by
    by_cases hx : xs = []
    · subst hx
      rw [allGo, if_pos rfl] at h
      cases h
      obtain ⟨g, rfl⟩ : ∃ k, g = k + 1 := ⟨g - 1, by omega⟩
      exact ⟨_, by rw [ins, allGo, if_pos rfl], hL.flush.symm⟩
    rcases h60 : hd (fun c => c == 60) xs with _ | _
    · rw [allGo_chunk f xs st hx h60] at h
      rcases h1 : chunk xs with e | ⟨t, z⟩
      · rw [h1] at h; cases h
      rw [h1, and_ok] at h
      obtain ⟨p, i1, i2, i3, i4⟩ := chunkGo_ext _ _ _ _ h1
      have hpne : p ≠ [] := by
        rintro rfl
        rw [List.nil_append] at i1
        subst i1
        rcases i3 with i3 | i3
        · exact hx i3
        · rw [h60] at i3; cases i3
      have hp60 : ∀ y, hd (fun c => c == 60) (p ++ y) = false := fun y => by
        cases p with
        | nil => exact absurd rfl hpne
        | cons c p => simpa [hd] using i2 c (by simp)
      have hC2 : ChkC false (pc ++ p) z := chk_plain p z pc i2 (by rw [← i1]; exact hC)
      have hR2 : Reach D (pc ++ p) z := by
        intro y hy hDy
        have hy' : hd (fun c => c == 60) y = true := by
          rcases hy with hy | ⟨hz, hz2⟩
          · exact hy
          · rcases i3 with i3 | i3
            · exact absurd i3 hz2
            · rw [i3] at hz; cases hz
        rw [List.append_assoc] at hDy ⊢
        obtain ⟨f', st', k1, k2⟩ := hR (p ++ y) (.inr ⟨h60, hx⟩) hDy
        obtain ⟨f', rfl⟩ : ∃ k, f' = k + 1 := ⟨f' - 1, by omega⟩
        have hl := List.length_pos_iff.2 hpne
        rw [List.length_append] at k1
        refine ⟨f', (st'.begin (p ++ y).length).say t, by omega, k2.trans ?_⟩
        rw [allGo_chunk f' (p ++ y) st' (by simp [hpne]) (hp60 y), show chunk (p ++ y) = .ok (t, y) from i4 y _ (.inl hy') (by simp; omega), and_ok]
      have e1 : ins false xs = p ++ ins false z := by rw [i1]; exact ins_plain p z i2
      have hz : ins false z = z ∨ hd (fun c => c == 60) (ins false z) = true := by
        rcases i3 with rfl | i3
        · exact .inl rfl
        · right
          cases z with
          | nil => cases i3
          | cons c z =>
            have : c = 60 := by simpa [hd] using i3
            subst this
            rw [ins]
            split <;> rfl
      rw [e1, List.length_append] at hg
      obtain ⟨g, rfl⟩ : ∃ k, g = k + 1 := ⟨g - 1, by omega⟩
      have hl := List.length_pos_iff.2 hpne
      obtain ⟨ts2, j1, j2⟩ := allGo_ins D hD f (pc ++ p) z _ ((st2.begin (p ++ ins false z).length).say t) ts g h hC2 (by rw [List.append_assoc, ← i1]; exact hDx) hR2 (hL.say _ _ t) (by omega)
      refine ⟨ts2, ?_, j2⟩
      rw [e1, allGo_chunk g _ st2 (by simp [hpne]) (hp60 _), show chunk (p ++ ins false z) = .ok (t, ins false z) from i4 _ _ (hz.symm.imp id id) (by simp; omega), and_ok, j1]
    · obtain ⟨r, rfl⟩ : ∃ r, xs = 60 :: r := by
        cases xs with
        | nil => exact absurd rfl hx
        | cons c r => simp [hd] at h60; exact ⟨r, by rw [h60]⟩
      rcases hm : hd (fun d => d == 33 || d == 63) r with _ | _
      · rw [allGo_tag f r st hm] at h
        rcases h1 : tag (60 :: r) with e | ⟨t, z⟩
        · rw [h1] at h; cases h
        rw [h1, and_ok] at h
        obtain ⟨c, r', i1, c1, c2, c3, i2, i3⟩ := tag_ext h60 h1
        have hmk : ∀ y, hd (fun d => d == 33 || d == 63) (c :: r' ++ y) = false := fun y => by simp [hd, c1, c2]
        have e1 : ins false (60 :: r) = remA ++ (60 :: c :: r' ++ ins false z) := by
          rw [ins, if_neg (by simp [isIn, hm]), if_pos rfl]
          have : r = c :: r' ++ z := by simpa using i1
          rw [this, ins_plain (c :: r') z (fun x hx => by rcases List.mem_cons.1 hx with rfl | hx; exact c3; exact i2 x hx)]
          rfl
        have hC2 : ChkC false (pc ++ (60 :: c :: r')) z := by
          rw [ChkC, if_neg (by simp [isIn, hm])] at hC
          have : r = c :: r' ++ z := by simpa using i1
          rw [this] at hC
          have := chk_plain (c :: r') z _ (fun x hx => by rcases List.mem_cons.1 hx with rfl | hx; exact c3; exact i2 x hx) hC
          simpa using this
        have hR2 : Reach D (pc ++ (60 :: c :: r')) z := hR.next (by rw [i1]) rfl fun y f' st' hf => by
          obtain ⟨f', rfl⟩ : ∃ k, f' = k + 1 := ⟨f' - 1, by omega⟩
          obtain ⟨t', k1, -⟩ := i3 y
          refine ⟨f', ⟨st'.flush.toks ++ [t'], [], st'.began⟩, by simp at hf; omega, ?_⟩
          have := allGo_tag f' (c :: r' ++ y) st' (hmk y)
          rw [show 60 :: (c :: r' ++ y) = 60 :: c :: r' ++ y from rfl, k1, and_ok] at this
          exact this
        rw [e1] at hg
        have hl : remA.length = 27 := rfl
        simp only [List.length_append, List.length_cons, hl] at hg
        obtain ⟨g, rfl⟩ : ∃ k, g = k + 3 := ⟨g - 3, by omega⟩
        obtain ⟨t', k1, k2⟩ := i3 (ins false z)
        obtain ⟨ts2, j1, j2⟩ := allGo_ins D hD f (pc ++ (60 :: c :: r')) z _ ⟨st2.flush.toks ++ [t'], [], st2.began⟩ ts g h hC2 (by rw [List.append_assoc, ← i1]; exact hDx) hR2 (hL.tag k2.symm _ _) (by omega)
        refine ⟨ts2, ?_, j2⟩
        have s1 : remA ++ (60 :: c :: r' ++ ins false z) = remC ++ (remP ++ (60 :: c :: r' ++ ins false z)) := by unfold remA; rw [List.append_assoc]
        rw [e1, s1, allGo_comment (g + 2) _ st2 (pre_app _ (by decide)), comment_rem, and_ok, allGo_instr (g + 1) _ st2 (pre_app _ (by decide)), instr_rem, and_ok]
        have := allGo_tag g (c :: r' ++ ins false z) st2 (hmk _)
        rw [show 60 :: (c :: r' ++ ins false z) = 60 :: c :: r' ++ ins false z from rfl, k1, and_ok] at this
        rw [this, j1]
      · -- a remark, a section
        have hC1 : ChkC true (pc ++ [60]) r := by
          rw [ChkC, if_pos (by simp [isIn, hm])] at hC
          exact hC.2
        have e1 : ins false (60 :: r) = 60 :: ins true r := by
          rw [ins, if_pos (by simp [isIn, hm])]; rfl
        -- what is common to the three
        have common : ∀ (α : Type) (t : List Nat) (F : Cs → R α) (S : St → Nat → α → St), 62 ∉ t → t.head? = some 60 →
            (∀ xs a q, pre t xs = true → F xs = .ok (a, q) → ∃ p, xs = p ++ q ∧ 62 ∈ p ∧ pre t p = true ∧ ∀ y, F (p ++ y) = .ok (a, y)) →
            (∀ f xs st, pre t xs = true → allGo (f + 1) xs st = (F xs).and fun a z => allGo f z (S st xs.length a)) →
            (∀ n m x, Like st st2 → Like (S st n x) (S st2 m x)) →
            pre t (60 :: r) = true → ∃ ts2, allGo g (ins false (60 :: r)) st2 = .ok ts2 ∧ ts2.map Tok.bare = ts.map Tok.bare := by
          intro α t F S ht ht0 hF hA hS hp
          rw [hA f _ st hp] at h
          rcases h1 : F (60 :: r) with e | ⟨a, z⟩
          · rw [h1] at h; cases h
          rw [h1, and_ok] at h
          obtain ⟨m, k1, k2, k3, k4⟩ := first62 t ht F hF hp h1 fun m w e he hpm => by
            cases m with
            | nil => simp at e
            | cons c m =>
              obtain ⟨rfl, er⟩ := List.cons.inj e
              change r = m ++ 62 :: w at er
              have hm' : 62 ∉ m := fun hm => he (by simp [hm])
              rw [er] at hC1
              obtain ⟨⟨us, hus⟩, -⟩ := chk_in m w _ hm' hC1
              have s1 : pc ++ [60] ++ (m ++ [62]) = pc ++ (60 :: m ++ [62]) := by simp
              rw [s1] at hus
              obtain ⟨f', st', g1, g2⟩ := hR (60 :: m ++ [62]) (.inl rfl) (hD _ w (by
                have : pc ++ (60 :: m ++ [62]) ++ w = pc ++ 60 :: r := by rw [er]; simp
                rw [this]; exact hDx))
              rw [hus] at g2
              obtain ⟨f', rfl⟩ : ∃ k, f' = k + 1 := ⟨f' - 1, by omega⟩
              rw [hA f' _ st' hpm] at g2
              rcases h5 : F (60 :: m ++ [62]) with e | ⟨a', q'⟩
              · rw [h5] at g2; cases g2
              · exact ⟨a', q', rfl⟩
          cases m with
          | nil => simp at k1
          | cons c m =>
            obtain ⟨rfl, er⟩ := List.cons.inj k1
            change r = m ++ 62 :: z at er
            have hm' : 62 ∉ m := fun hm => k2 (by simp [hm])
            have e2 : ins false (60 :: r) = 60 :: m ++ 62 :: ins false z := by rw [e1, er, ins_in m z hm']; rfl
            rw [er] at hC1
            obtain ⟨-, hC2⟩ := chk_in m z _ hm' hC1
            have s1 : pc ++ [60] ++ (m ++ [62]) = pc ++ (60 :: m ++ [62]) := by simp
            rw [s1] at hC2
            have hpre : ∀ y, pre t (60 :: m ++ 62 :: y) = true := fun y => by
              have := pre_app y k3
              rw [List.append_assoc, List.singleton_append] at this
              exact this
            have hR2 : Reach D (pc ++ (60 :: m ++ [62])) z := hR.next (p := 60 :: m ++ [62]) (by rw [er]; simp) rfl fun y f' st' hf => by
              obtain ⟨f', rfl⟩ : ∃ k, f' = k + 1 := ⟨f' - 1, by omega⟩
              have s2 : 60 :: m ++ [62] ++ y = 60 :: m ++ 62 :: y := by simp
              rw [s2] at hf ⊢
              refine ⟨f', S st' (60 :: m ++ 62 :: y).length a, by simp at hf; omega, ?_⟩
              rw [hA f' _ st' (hpre y), k4 y, and_ok]
            rw [e2] at hg ⊢
            obtain ⟨g, rfl⟩ : ∃ k, g = k + 1 := ⟨g - 1, by omega⟩
            have hDz : D (pc ++ (60 :: m ++ [62]) ++ z) := by
              have : pc ++ (60 :: m ++ [62]) ++ z = pc ++ 60 :: r := by rw [er]; simp
              rw [this]; exact hDx
            obtain ⟨ts2, j1, j2⟩ := allGo_ins D hD f (pc ++ (60 :: m ++ [62])) z _ (S st2 (60 :: m ++ 62 :: ins false z).length a) ts g h hC2 hDz hR2 (hS _ _ a hL) (by simp at hg; omega)
            exact ⟨ts2, by rw [hA g _ st2 (hpre _), k4, and_ok, j1], j2⟩
        rcases hp1 : pre [60, 63] (60 :: r) with _ | _
        · have hb : pre [60, 33] (60 :: r) = true := by
            cases r with
            | nil => cases hm
            | cons c r =>
              simp only [hd, Bool.or_eq_true, beq_iff_eq] at hm
              rcases hm with rfl | rfl
              · simp [pre]
              · simp [pre] at hp1
          rcases hp2 : pre [60, 33, 45, 45] (60 :: r) with _ | _
          · rcases hp3 : pre tCdata (60 :: r) with _ | _
            · exact absurd h (allGo_other f _ st hb hp2 hp3 ts)
            · exact common Cs tCdata (fun xs => untilT [93, 93, 62] (xs.drop 9)) (fun s n a => (s.begin n).say a) (by decide) rfl (fun xs a q h1 h2 => cdata_ext h1 h2) (fun f xs st h1 => allGo_cdata f xs st h1) (fun n m x hl => hl.say n m x) hp3
          · exact common Unit [60, 33, 45, 45] comment (fun s _ _ => s) (by decide) rfl (fun xs a q h1 h2 => comment_ext h1 h2) (fun f xs st h1 => allGo_comment f xs st h1) (fun n m x hl => hl) hp2
        · exact common Unit [60, 63] instr (fun s _ _ => s) (by decide) rfl (fun xs a q h1 h2 => instr_ext h1 h2) (fun f xs st h1 => allGo_instr f xs st h1) (fun n m x hl => hl) hp1
end Tk
end Go.Proofs.YtaknfofppknloaaGreatDoor
namespace Go.Proofs.YtaknfofppknloaaGreatDoor
open Go Go.RowKit
set_option linter.all false
namespace Tk
theorem declOk_bare (l l' : List Attr) (h : l.map Attr.bare = l'.map Attr.bare) : declOk l = declOk l' := by
  have hb : ∀ a b : Attr, a.bare = b.bare → a.nm = b.nm ∧ a.val = b.val := fun a b e => by
    unfold Attr.bare at e; exact ⟨(Prod.mk.inj e).1, (Prod.mk.inj e).2⟩
  match l, l', h with
  | [], [], _ => rfl
  | [a], [a'], h =>
    simp only [List.map_cons, List.map_nil, List.cons.injEq, and_true] at h
    obtain ⟨h1, h2⟩ := hb a a' h
    simp only [declOk, h1, h2]
  | [a], b :: c :: l', h => simp at h
  | [a, b], [a'], h => simp at h
  | [a, b], a' :: b' :: c' :: l', h => simp at h
  | a :: b :: c :: l, [a'], h => simp at h
  | a :: b :: c :: l, [a', b'], h => simp at h
  | [a, b], [a', b'], h =>
    simp only [List.map_cons, List.map_nil, List.cons.injEq, and_true] at h
    obtain ⟨h1, h2⟩ := hb a a' h.1
    obtain ⟨h3, h4⟩ := hb b b' h.2
    simp only [declOk, h1, h2, h3, h4]
    by_cases k : b'.nm = tEncoding
    · simp only [k, if_true]
    · simp only [k, if_false, h3, h4]
      by_cases k2 : b'.nm = tStandalone <;> simp [k2]
  | a :: b :: c :: l, a' :: b' :: c' :: l', h =>
    simp only [List.map_cons, List.cons.injEq] at h
    obtain ⟨h1, h2⟩ := hb a a' h.1
    obtain ⟨h3, h4⟩ := hb b b' h.2.1
    obtain ⟨h5, h6⟩ := hb c c' h.2.2.1
    have h7 : l.isEmpty = l'.isEmpty := by
      have := congrArg List.length h.2.2.2
      simp only [List.length_map] at this
      cases l <;> cases l' <;> simp_all
    simp only [declOk, h1, h2, h3, h4]
    by_cases k : b'.nm = tEncoding
    · simp only [k, if_true, h5, h6]
      by_cases k2 : c'.nm = tStandalone <;> simp [k2, h7]
    · simp only [k, if_false, h3, h4]
      by_cases k2 : b'.nm = tStandalone <;> simp [k2]
theorem ins_back {r y : Cs} {c : Nat} (h : ins true r = c :: y) (hc : c ≠ 62) : ∃ r', r = c :: r' ∧ y = ins true r' := by
  cases r with
  | nil => cases h
  | cons d r =>
    rw [ins, if_pos (by simp [isIn])] at h
    obtain ⟨rfl, h2⟩ := List.cons.inj h
    exact ⟨r, rfl, by rw [← h2, show (!(d == 62)) = true by simp [hc]]⟩
theorem fires_split {cs : Cs} (h : fires cs = true) : ∃ b r, cs = 60 :: 63 :: 120 :: 109 :: 108 :: b :: r ∧ blank b = true := by
  unfold fires at h
  simp only [Bool.and_eq_true] at h
  have h1 := pre_split h.1
  have h2 := h.2
  have h5 : tXml.length = 5 := rfl
  rw [h5] at h1
  cases hd : cs.drop 5 with
  | nil => rw [hd] at h2; cases h2
  | cons b r => rw [hd] at h1 h2; exact ⟨b, r, h1, h2⟩
theorem fires_mk (b : Nat) (r : Cs) (h : blank b = true) : fires (60 :: 63 :: 120 :: 109 :: 108 :: b :: r) = true := by
  unfold fires
  simp only [Bool.and_eq_true]
  exact ⟨by simp [pre, tXml], h⟩
theorem fires_ins {cs : Cs} (h : fires cs = false) : fires (ins false cs) = false := by
  rcases hf : fires (ins false cs) with _ | _
  · rfl
  exfalso
  obtain ⟨b, y, hy, hb⟩ := fires_split hf
  cases cs with
  | nil => cases hy
  | cons c r =>
    rw [ins] at hy
    split at hy
    · rename_i hi
      obtain ⟨rfl, h1⟩ := List.cons.inj hy
      rw [show (!(60 == 62)) = true from rfl] at h1
      obtain ⟨r1, rfl, h2⟩ := ins_back h1 (by omega)
      obtain ⟨r2, rfl, h3⟩ := ins_back h2.symm (by omega)
      obtain ⟨r3, rfl, h4⟩ := ins_back h3.symm (by omega)
      obtain ⟨r4, rfl, h5⟩ := ins_back h4.symm (by omega)
      obtain ⟨r5, rfl, h6⟩ := ins_back h5.symm (blank_ne hb).2.1
      rw [fires_mk b r5 hb] at h
      cases h
    · split at hy
      · have h1 := (List.cons.inj (List.cons.inj hy).2).1
        cases h1
      · rename_i hc
        exact hc (List.cons.inj hy).1
theorem decl_no {cs : Cs} (h : fires cs = false) : decl cs = .ok ((), cs) := by
  unfold fires at h
  unfold decl
  rw [h, if_neg (by simp)]
/-- a declaration: what it goes over -/
theorem decl_ext {cs z : Cs} {u : Unit} (hf : fires cs = true) (h : decl cs = .ok (u, z)) : ∃ p, cs = p ++ z ∧ 62 ∈ p ∧ (∃ q, p = 60 :: 63 :: q) ∧ ∀ y, decl (p ++ y) = .ok ((), y) := by
  obtain ⟨b, r, hcs, hb⟩ := fires_split hf
  unfold decl at h
  unfold fires at hf
  rw [hf, if_pos rfl] at h
  rcases h2 : attrs (cs.drop 5) with e | ⟨l, r2⟩
  · rw [h2] at h; cases h
  rw [h2, and_ok] at h
  split at h
  · rename_i hk
    simp only [Bool.and_eq_true] at hk
    cases h
    obtain ⟨p, i1, i2, i3, i4⟩ := attrs_ext h2
    have hr := pre_split hk.2
    simp only [List.length_cons, List.length_nil] at hr
    have hb2 : ∃ p', p = b :: p' := by
      cases p with
      | nil =>
        rw [hcs, List.nil_append, hr] at i1
        simp only [List.drop_succ_cons, List.drop_zero, List.cons_append] at i1
        have := (List.cons.inj i1).1
        subst this
        simp [blank] at hb
      | cons c p' =>
        rw [hcs] at i1
        simp only [List.drop_succ_cons, List.drop_zero, List.cons_append] at i1
        exact ⟨p', by rw [(List.cons.inj i1).1]⟩
    obtain ⟨p', rfl⟩ := hb2
    refine ⟨60 :: 63 :: 120 :: 109 :: 108 :: (b :: p' ++ [63, 62]), ?_, by simp, ⟨_, rfl⟩, fun y => ?_⟩
    · have h5 : cs = 60 :: 63 :: 120 :: 109 :: 108 :: cs.drop 5 := by rw [hcs]; rfl
      conv => lhs; rw [h5, i1, hr]
      simp
    · obtain ⟨l', k1, k2⟩ := i4 (63 :: 62 :: y) rfl rfl
      have hd5 : (60 :: 63 :: 120 :: 109 :: 108 :: (b :: p' ++ [63, 62]) ++ y).drop 5 = b :: p' ++ 63 :: 62 :: y := by simp
      have hf2 : (pre tXml (60 :: 63 :: 120 :: 109 :: 108 :: (b :: p' ++ [63, 62]) ++ y) && hd blank ((60 :: 63 :: 120 :: 109 :: 108 :: (b :: p' ++ [63, 62]) ++ y).drop 5)) = true := fires_mk b (p' ++ [63, 62] ++ y) hb
      unfold decl
      rw [hf2, if_pos rfl, hd5, k1, and_ok, declOk_bare l' l k2, if_pos (by simp [hk.1, pre])]
      rfl
  · cases h
/-- REMARKS AHEAD OF TAGS CHANGE NOTHING BUT PLACES: of the characters -/
theorem tokens_ins {cs : Cs} {ts : List Tok} (h : tokens cs = .ok ts) (hC : ChkC false [] cs) : ∃ ts2, tokens (ins false cs) = .ok ts2 ∧ ts2.map Tok.bare = ts.map Tok.bare := by
  rcases hf : fires cs with _ | _
  · have hd1 := decl_no hf
    have hd2 := decl_no (fires_ins hf)
    unfold tokens at h ⊢
    rw [hd1, and_ok] at h
    rw [hd2, and_ok]
    refine allGo_ins (fun l => fires l = false) (fun a b hab => ?_) _ [] cs _ _ ts _ h hC hf (fun y _ hy => ⟨y.length + 1, ⟨[], [], 0⟩, by omega, ?_⟩) ⟨rfl, rfl⟩ (by omega)
    · rcases ha : fires a with _ | _
      · rfl
      · rw [fires_mono b ha] at hab; cases hab
    · rw [List.nil_append] at hy ⊢
      unfold tokens
      rw [decl_no hy, and_ok]
  · unfold tokens at h
    rcases h1 : decl cs with e | ⟨u, z⟩
    · rw [h1] at h; cases h
    rw [h1, and_ok] at h
    obtain ⟨p, i1, i2, ⟨p0, i3⟩, i4⟩ := decl_ext hf h1
    obtain ⟨m, w, e1, e2⟩ := split62 p i2
    obtain ⟨b, r0, hcs, hb⟩ := fires_split hf
    have hcs2 : cs = m ++ 62 :: (w ++ z) := by rw [i1, e1]; simp
    obtain ⟨m1, rfl⟩ : ∃ m1, m = 60 :: 63 :: 120 :: 109 :: 108 :: b :: m1 := by
      rw [hcs] at hcs2
      have hbl := (blank_ne hb).2.1
      match m, hcs2 with
      | [], e => simp at e
      | [_], e => simp at e
      | [_, _], e => simp at e
      | [_, _, _], e => simp at e
      | [_, _, _, _], e => simp at e
      | [_, _, _, _, _], e => simp at e; exact absurd e.2.2.2.2.2.1 hbl
      | a1 :: a2 :: a3 :: a4 :: a5 :: a6 :: m1, e =>
        simp only [List.cons_append, List.cons.injEq] at e
        obtain ⟨rfl, rfl, rfl, rfl, rfl, rfl, -⟩ := e
        exact ⟨m1, rfl⟩
    have hC1 : ChkC true ([] ++ [60]) (63 :: 120 :: 109 :: 108 :: b :: m1 ++ 62 :: (w ++ z)) := by
      rw [hcs2] at hC
      simp only [List.cons_append] at hC
      rw [ChkC, if_pos (by simp [isIn, hd])] at hC
      exact hC.2
    obtain ⟨⟨us, hus⟩, -⟩ := chk_in _ _ _ (by intro hm; exact e2 (List.mem_cons_of_mem _ hm)) hC1
    have hfm : fires (60 :: 63 :: 120 :: 109 :: 108 :: b :: m1 ++ [62]) = true := fires_mk b (m1 ++ [62]) hb
    have hus' : tokens (60 :: 63 :: 120 :: 109 :: 108 :: b :: m1 ++ [62]) = .ok us := hus
    unfold tokens at hus'
    rcases h5 : decl (60 :: 63 :: 120 :: 109 :: 108 :: b :: m1 ++ [62]) with e | ⟨u', z'⟩
    · rw [h5] at hus'; cases hus'
    obtain ⟨p', j1, j2, -, j4⟩ := decl_ext hfm h5
    obtain ⟨rfl, rfl⟩ := only62 j1 e2 j2
    have hw : w = [] := by
      have g2 := j4 (w ++ z)
      rw [List.append_assoc, List.singleton_append, ← hcs2, h1] at g2
      have := congrArg List.length (Prod.mk.inj (Except.ok.inj g2)).2
      simp at this
      exact this
    subst hw
    rw [List.nil_append] at hcs2
    have e3 : ins false cs = 60 :: 63 :: 120 :: 109 :: 108 :: b :: m1 ++ [62] ++ ins false z := by
      rw [hcs2]
      have := ins_in (63 :: 120 :: 109 :: 108 :: b :: m1) z (by intro hm; exact e2 (List.mem_cons_of_mem _ hm))
      simp only [List.cons_append] at this ⊢
      rw [ins, if_pos (by simp [isIn, hd]), show (!(60 == 62)) = true from rfl, this]
      simp
    obtain ⟨-, hC2⟩ := chk_in _ _ _ (by intro hm; exact e2 (List.mem_cons_of_mem _ hm)) hC1
    rw [List.nil_append] at hC2
    have hC3 : ChkC false (60 :: 63 :: 120 :: 109 :: 108 :: b :: m1 ++ [62]) z := hC2
    have hdec : tokens (ins false cs) = allGo ((ins false z).length + 1) (ins false z) ⟨[], [], 0⟩ := by
      rw [e3]
      unfold tokens
      rw [j4, and_ok]
    rw [hdec]
    refine allGo_ins (fun _ => True) (fun _ _ _ => trivial) _ (60 :: 63 :: 120 :: 109 :: 108 :: b :: m1 ++ [62]) z _ _ ts _ h hC3 trivial (fun y _ _ => ⟨y.length + 1, ⟨[], [], 0⟩, by omega, ?_⟩) ⟨rfl, rfl⟩ (by omega)
    unfold tokens
    rw [j4, and_ok]
/-- the same of bytes -/
def remB : List UInt8 := narrow remA
def isInB (i : Bool) (b : UInt8) (r : List UInt8) : Bool := i || (b == 60 && (by8 r 0 == 33 || by8 r 0 == 63))
def insB : Bool → List UInt8 → List UInt8
  | _, [] => []
  | i, b :: r => if isInB i b r then b :: insB (!(b == 62)) r else (if b = 60 then remB else []) ++ b :: insB false r
def ChkB : Bool → List UInt8 → List UInt8 → Prop
  | _, _, [] => True
  | i, p, b :: r => if isInB i b r then (b = 62 → ∃ ts, whole (p ++ [62]) = .ok ts) ∧ ChkB (!(b == 62)) (p ++ [b]) r else ChkB false (p ++ [b]) r
/-- bytes that read as characters -/
inductive RdBy : List UInt8 → Cs → Prop
  | nil : RdBy [] []
  | chr (c : Nat) (t : List UInt8) (cs : Cs) : allowed c = true → RdBy t cs → RdBy (enc c ++ t) (c :: cs)
  | crlf (t : List UInt8) (cs : Cs) : RdBy t cs → RdBy (13 :: 10 :: t) (10 :: cs)
  | cr (t : List UInt8) (cs : Cs) : by8 t 0 ≠ 10 → RdBy t cs → RdBy (13 :: t) (10 :: cs)
theorem RdBy.read {l : List UInt8} {cs : Cs} (h : RdBy l cs) : rdA l = (cs, 0) := by
  induction h with
  | nil => rfl
  | chr c t cs hc _ ih => rw [rdA_char c t (allowed_okc' hc) (allowed_ne13 hc), if_pos hc, ih]
  | crlf t cs _ ih =>
    rw [rdA_cr]
    have e : (10 :: t).drop (if by8 (10 :: t) 0 = 10 then 1 else 0) = t := by rw [if_pos (by simp [by8])]; rfl
    rw [e, ih]
  | cr t cs h _ ih => rw [rdA_cr, if_neg h, List.drop_zero, ih]
theorem RdBy.of : ∀ (n : Nat) (l : List UInt8), l.length ≤ n → (rdA l).2 = 0 → RdBy l (rdA l).1
  | _, [], _, _ => .nil
  | 0, b :: l, h, _ => by simp at h
  | n + 1, b :: l, hn, h => by
    simp only [List.length_cons] at hn
    rcases first_char b l with h1 | ⟨c, t, h1, h2⟩
    · rw [rdA_bad h1] at h; cases h
    have hl : t.length ≤ n := by
      have := congrArg List.length h2
      have h3 := enc_pos c
      simp at this; omega
    by_cases hc : c = 13
    · subst hc
      have e13 : enc 13 = [13] := by decide
      rw [e13] at h2
      change b :: l = 13 :: t at h2
      rw [h2] at h ⊢
      rw [rdA_cr] at h ⊢
      by_cases h10 : by8 t 0 = 10
      · rw [if_pos h10] at h ⊢
        cases t with
        | nil => simp [by8] at h10
        | cons x t =>
          have hx : x = 10 := by
            have : x.toNat = 10 := by simpa [by8] using h10
            exact UInt8.toNat_inj.1 this
          subst hx
          simp only [List.drop_succ_cons, List.drop_zero] at h ⊢
          exact .crlf t _ (RdBy.of n t (by simp at hl; omega) h)
      · rw [if_neg h10, List.drop_zero] at h ⊢
        exact .cr t _ h10 (RdBy.of n t hl h)
    · rw [h2, rdA_char c t h1 hc] at h ⊢
      split at h
      · rename_i ha
        rw [if_pos ha]
        exact .chr c t _ ha (RdBy.of n t hl h)
      · cases h
theorem by8_high {c : Nat} (t : List UInt8) (h : 128 ≤ c) (h2 : okc c) : 128 ≤ by8 (enc c ++ t) 0 := by
  obtain ⟨b, m, hb⟩ := enc_cons c
  have := enc_up h h2 b (by rw [hb]; simp)
  rw [hb]
  simpa [by8] using this
theorem by8_low {c : Nat} (t : List UInt8) (h : c < 128) : by8 (enc c ++ t) 0 = c := by
  rw [enc_dn h]
  show (UInt8.ofNat c).toNat = c
  rw [UInt8.toNat_ofNat']; omega
theorem RdBy.head {l : List UInt8} {cs : Cs} (h : RdBy l cs) (k : Nat) (hk : 13 < k) (hk2 : k < 128) : (by8 l 0 == k) = hd (fun d => d == k) cs := by
  cases h with
  | nil => simp [by8, hd]; omega
  | chr c t cs hc _ =>
    rcases Nat.lt_or_ge c 128 with h1 | h1
    · rw [by8_low t h1]; rfl
    · have := by8_high t h1 (allowed_okc' hc)
      have e1 : (by8 (enc c ++ t) 0 == k) = false := by rw [beq_eq_false_iff_ne]; omega
      have e2 : (c == k) = false := by rw [beq_eq_false_iff_ne]; omega
      rw [e1]; exact e2.symm
  | crlf t cs _ =>
    have e1 : by8 (13 :: 10 :: t) 0 = 13 := by simp [by8]
    rw [e1]
    have e2 : (13 == k) = false := by rw [beq_eq_false_iff_ne]; omega
    have e3 : (10 == k) = false := by rw [beq_eq_false_iff_ne]; omega
    rw [e2]; exact e3.symm
  | cr t cs _ _ =>
    have e1 : by8 (13 :: t) 0 = 13 := by simp [by8]
    rw [e1]
    have e2 : (13 == k) = false := by rw [beq_eq_false_iff_ne]; omega
    have e3 : (10 == k) = false := by rw [beq_eq_false_iff_ne]; omega
    rw [e2]; exact e3.symm
theorem hd_or (p q : Nat → Bool) (cs : Cs) : hd (fun d => p d || q d) cs = (hd p cs || hd q cs) := by cases cs <;> rfl
theorem RdBy.isIn {t : List UInt8} {cs : Cs} (h : RdBy t cs) (i : Bool) (c : Nat) (hc : c < 128) : isInB i (UInt8.ofNat c) t = isIn i c cs := by
  unfold isInB Tk.isIn
  rw [h.head 33 (by omega) (by omega), h.head 63 (by omega) (by omega), hd_or]
  congr 2
  rw [Bool.eq_iff_iff, beq_iff_eq, beq_iff_eq]
  constructor
  · intro e
    have := congrArg UInt8.toNat e
    rw [UInt8.toNat_ofNat'] at this
    have e60 : (60 : UInt8).toNat = 60 := rfl
    rw [e60] at this
    omega
  · rintro rfl; rfl
theorem ofNat_eq {c k : Nat} (hc : c < 128) (hk : k < 128) : (UInt8.ofNat c = UInt8.ofNat k) ↔ c = k := by
  constructor
  · intro e
    have := congrArg UInt8.toNat e
    rw [UInt8.toNat_ofNat', UInt8.toNat_ofNat'] at this
    omega
  · rintro rfl; rfl
theorem high_ne {b : UInt8} (h : 128 ≤ b.toNat) : b ≠ 60 ∧ b ≠ 62 := by
  constructor <;> (rintro rfl; exact absurd h (by decide))
theorem insB_high : ∀ (x t : List UInt8) (i : Bool), (∀ b ∈ x, 128 ≤ b.toNat) → insB i (x ++ t) = x ++ insB i t
  | [], t, i, _ => rfl
  | b :: x, t, i, h => by
    have hb := high_ne (h b (by simp))
    have ih := insB_high x t i fun y hy => h y (by simp [hy])
    rw [List.cons_append, insB]
    have e1 : isInB i b (x ++ t) = i := by unfold isInB; simp [hb.1]
    have e2 : (!(b == 62)) = true := by simp [hb.2]
    rw [e1, e2]
    cases i with
    | true => rw [if_pos rfl, ih]; rfl
    | false => rw [if_neg (by simp), if_neg hb.1, ih]; rfl
theorem chkB_high : ∀ (x t p : List UInt8) (i : Bool), (∀ b ∈ x, 128 ≤ b.toNat) → ChkB i p (x ++ t) → ChkB i (p ++ x) t
  | [], t, p, i, _, k => by simpa using k
  | b :: x, t, p, i, h, k => by
    have hb := high_ne (h b (by simp))
    rw [List.cons_append, ChkB] at k
    have e1 : isInB i b (x ++ t) = i := by unfold isInB; simp [hb.1]
    have e2 : (!(b == 62)) = true := by simp [hb.2]
    rw [e1, e2] at k
    have ih : ChkB i (p ++ [b]) (x ++ t) := by
      cases i with
      | true => rw [if_pos rfl] at k; exact k.2
      | false => rw [if_neg (by simp)] at k; exact k
    have := chkB_high x t (p ++ [b]) i (fun y hy => h y (by simp [hy])) ih
    simpa using this
/-- a byte that is neither < nor > -/
theorem insB_one (b : UInt8) (t : List UInt8) (i : Bool) (h1 : b ≠ 60) (h2 : b ≠ 62) : insB i (b :: t) = b :: insB i t := by
  rw [insB]
  have e1 : isInB i b t = i := by unfold isInB; simp [h1]
  have e2 : (!(b == 62)) = true := by simp [h2]
  rw [e1, e2]
  cases i with
  | true => rw [if_pos rfl]
  | false => rw [if_neg (by simp), if_neg h1]; rfl
theorem chkB_one (b : UInt8) (t p : List UInt8) (i : Bool) (h1 : b ≠ 60) (h2 : b ≠ 62) (k : ChkB i p (b :: t)) : ChkB i (p ++ [b]) t := by
  rw [ChkB] at k
  have e1 : isInB i b t = i := by unfold isInB; simp [h1]
  have e2 : (!(b == 62)) = true := by simp [h2]
  rw [e1, e2] at k
  cases i with
  | true => rw [if_pos rfl] at k; exact k.2
  | false => rw [if_neg (by simp)] at k; exact k
theorem ins_one (c : Nat) (cs : Cs) (i : Bool) (h1 : c ≠ 60) (h2 : c ≠ 62) : ins i (c :: cs) = c :: ins i cs := by
  rw [ins]
  have e1 : isIn i c cs = i := by unfold isIn; simp [h1]
  have e2 : (!(c == 62)) = true := by simp [h2]
  rw [e1, e2]
  cases i with
  | true => rw [if_pos rfl]
  | false => rw [if_neg (by simp), if_neg h1]; rfl
theorem chk_one (c : Nat) (cs pc : Cs) (i : Bool) (h1 : c ≠ 60) (h2 : c ≠ 62) (k : ChkC i (pc ++ [c]) cs) : ChkC i pc (c :: cs) := by
  rw [ChkC]
  have e1 : isIn i c cs = i := by unfold isIn; simp [h1]
  have e2 : (!(c == 62)) = true := by simp [h2]
  rw [e1, e2]
  cases i with
  | true => rw [if_pos rfl]; exact ⟨fun e => absurd e h2, k⟩
  | false => rw [if_neg (by simp)]; exact k
theorem by8_insB (i : Bool) (t : List UInt8) (h : by8 t 0 ≠ 10) : by8 (insB i t) 0 ≠ 10 := by
  cases t with
  | nil => exact h
  | cons b t =>
    rw [insB]
    split
    · exact h
    · split
      · have : by8 (remB ++ b :: insB false t) 0 = 60 := by rw [by8_append, if_pos (by decide)]; decide
        rw [this]; omega
      · exact h
theorem RdBy.app {D : Cs} (hD : ∀ c ∈ D, allowed c = true) {t : List UInt8} {cs : Cs} (h : RdBy t cs) : RdBy (narrow D ++ t) (D ++ cs) := by
  induction D with
  | nil => exact h
  | cons c D ih =>
    have e : narrow (c :: D) ++ t = enc c ++ (narrow D ++ t) := by simp [narrow]
    rw [e]
    exact .chr c _ _ (hD c (by simp)) (ih fun x hx => hD x (by simp [hx]))
theorem RdBy.ins {l : List UInt8} {cs : Cs} (h : RdBy l cs) : ∀ i, RdBy (insB i l) (ins i cs) := by
  induction h with
  | nil => intro i; cases i <;> exact .nil
  | chr c t cs hc hr ih =>
    intro i
    rcases Nat.lt_or_ge c 128 with h1 | h1
    · rw [enc_dn h1]
      show RdBy (insB i (UInt8.ofNat c :: t)) (Tk.ins i (c :: cs))
      rw [insB, Tk.ins, hr.isIn i c h1]
      have e62 : (UInt8.ofNat c == 62) = (c == 62) := by rw [Bool.eq_iff_iff, beq_iff_eq, beq_iff_eq]; exact ofNat_eq (k := 62) h1 (by decide)
      have hcc : ∀ i, RdBy (UInt8.ofNat c :: insB i t) (c :: Tk.ins i cs) := fun i => by
        have := RdBy.chr c _ _ hc (ih i)
        rwa [enc_dn h1] at this
      split
      · rw [e62]; exact hcc _
      · by_cases h60 : c = 60
        · rw [if_pos (by rw [h60]; rfl), if_pos h60]
          exact RdBy.app (by decide) (hcc false)
        · rw [if_neg (fun e : UInt8.ofNat c = 60 => h60 ((ofNat_eq (k := 60) h1 (by decide)).1 e)), if_neg h60]
          exact hcc false
    · rw [insB_high _ _ _ (enc_up h1 (allowed_okc' hc)), ins_one c cs i (by omega) (by omega)]
      exact .chr c _ _ hc (ih i)
  | crlf t cs hr ih =>
    intro i
    rw [insB_one _ _ _ (by decide) (by decide), insB_one _ _ _ (by decide) (by decide), ins_one _ _ _ (by omega) (by omega)]
    exact .crlf _ _ (ih i)
  | cr t cs h hr ih =>
    intro i
    rw [insB_one _ _ _ (by decide) (by decide), ins_one _ _ _ (by omega) (by omega)]
    exact .cr _ _ (by8_insB i t h) (ih i)
theorem whole_of_read {l : List UInt8} {cs : Cs} {ts : List TokV} (hr : rdA l = (cs, 0)) (h : whole l = .ok ts) : ∃ us, tokens cs = .ok us ∧ ts = us.map (Tok.fin cs) := by
  unfold whole at h
  rw [read_rdA, hr] at h
  split at h
  · cases h
  simp only [ne_eq, not_true_eq_false, if_false] at h
  rcases h1 : tokens cs with ⟨k, e⟩ | us
  · rw [h1] at h; cases h
  · rw [h1] at h; cases h; exact ⟨us, rfl, rfl⟩
theorem RdBy.chk {l : List UInt8} {cs : Cs} (h : RdBy l cs) : ∀ (i : Bool) (p : List UInt8) (pc : Cs),
    (∀ q x, RdBy q x → (by8 q 0 = 10 → by8 l 0 = 10) → RdBy (p ++ q) (pc ++ x)) → ChkB i p l → ChkC i pc cs := by
  have one : RdBy [62] [62] := by
    have := RdBy.chr 62 [] [] (by decide) .nil
    exact this
  induction h with
  | nil => intro i p pc _ _; cases i <;> trivial
  | chr c t cs hc hr ih =>
    intro i p pc H k
    have H2 : ∀ q x, RdBy q x → (by8 q 0 = 10 → by8 t 0 = 10) → RdBy (p ++ enc c ++ q) (pc ++ [c] ++ x) := fun q x hq _ => by
      have := H (enc c ++ q) (c :: x) (.chr c q x hc hq) (fun e => by
        obtain ⟨b, m, hb⟩ := enc_cons c
        rw [hb] at e ⊢
        exact e)
      simpa using this
    rcases Nat.lt_or_ge c 128 with h1 | h1
    · rw [enc_dn h1] at k H2
      change ChkB i p (UInt8.ofNat c :: t) at k
      rw [ChkB, hr.isIn i c h1] at k
      rw [ChkC]
      have e62 : (UInt8.ofNat c == 62) = (c == 62) := by rw [Bool.eq_iff_iff, beq_iff_eq, beq_iff_eq]; exact ofNat_eq (k := 62) h1 (by decide)
      split at k
      · rename_i hi
        rw [if_pos hi]
        refine ⟨fun e => ?_, ?_⟩
        · obtain ⟨ts, hts⟩ := k.1 (by rw [e]; rfl)
          have hR := H [62] [62] one (fun e => by simp [by8] at e)
          obtain ⟨us, hus, -⟩ := whole_of_read hR.read hts
          exact ⟨us, hus⟩
        · rw [← e62]
          exact ih _ _ _ H2 k.2
      · rename_i hi
        rw [if_neg hi]
        exact ih _ _ _ H2 k
    · refine chk_one c cs pc i (by omega) (by omega) (ih i _ _ H2 (chkB_high _ _ _ _ (enc_up h1 (allowed_okc' hc)) k))
  | crlf t cs hr ih =>
    intro i p pc H k
    refine chk_one 10 cs pc i (by omega) (by omega) (ih i (p ++ [13] ++ [10]) _ (fun q x hq _ => ?_) (chkB_one _ _ _ _ (by decide) (by decide) (chkB_one _ _ _ _ (by decide) (by decide) k)))
    have := H (13 :: 10 :: q) (10 :: x) (.crlf q x hq) (fun e => by simp [by8] at e)
    simpa using this
  | cr t cs h hr ih =>
    intro i p pc H k
    refine chk_one 10 cs pc i (by omega) (by omega) (ih i (p ++ [13]) _ (fun q x hq hqt => ?_) (chkB_one _ _ _ _ (by decide) (by decide) k))
    have := H (13 :: q) (10 :: x) (.cr q x (fun e => h (hqt e)) hq) (fun e => by simp [by8] at e)
    simpa using this
theorem insB_len : ∀ (l : List UInt8) (i : Bool), (insB i l).length ≤ 28 * l.length
  | [], i => by cases i <;> simp [insB]
  | b :: l, i => by
    have h27 : remB.length = 27 := by decide
    rw [insB]
    split
    · have := insB_len l (!(b == 62)); simp; omega
    · have := insB_len l false
      split
      · simp [h27]; omega
      · simp; omega
/-- a token, but for its place -/
def TokV.bare (t : TokV) : Nat × List UInt8 × List (List UInt8 × List UInt8) × List UInt8 × Bool := (t.kind, t.nm, t.attrs.map (fun a => (a.nm, a.val)), t.text, t.empty)
theorem fin_bare (cs : Cs) (t : Tok) : (t.fin cs).bare = (t.bare.1, narrow t.bare.2.1, t.bare.2.2.1.map (fun a => (narrow a.1, narrow a.2)), narrow t.bare.2.2.2.1, t.bare.2.2.2.2) := by
  simp [Tok.fin, TokV.bare, Tok.bare, Attr.fin, Attr.bare, List.map_map, Function.comp_def]
/-- REMARKS AHEAD OF TAGS CHANGE NOTHING BUT PLACES: of a document's bytes -/
theorem whole_ins {l : List UInt8} {ts : List TokV} (h : whole l = .ok ts) (hl : l.length ≤ 2000) (hC : ChkB false [] l) : ∃ ts2, whole (insB false l) = .ok ts2 ∧ ts2.map TokV.bare = ts.map TokV.bare := by
  have hr2 : (rdA l).2 = 0 := by
    unfold whole at h
    rw [read_rdA] at h
    split at h
    · cases h
    split at h
    · cases h
    · rename_i hx; simpa using hx
  have hR := RdBy.of _ l (Nat.le_refl _) hr2
  generalize (rdA l).1 = cs at hR
  obtain ⟨us, h1, rfl⟩ := whole_of_read hR.read h
  have hCC := hR.chk false [] [] (fun q x hq _ => hq) hC
  obtain ⟨us2, h2, h3⟩ := tokens_ins h1 hCC
  have hlen := insB_len l false
  refine ⟨us2.map (Tok.fin (ins false cs)), ?_, ?_⟩
  · unfold whole
    rw [if_neg (by omega), read_rdA, (hR.ins false).read]
    simp only [ne_eq, not_true_eq_false, if_false]
    rw [h2]
  · rw [List.map_map, List.map_map]
    have e : ∀ (ds : Cs) (vs : List Tok), vs.map (TokV.bare ∘ Tok.fin ds) = (vs.map Tok.bare).map fun b => (b.1, narrow b.2.1, b.2.2.1.map (fun a => (narrow a.1, narrow a.2)), narrow b.2.2.2.1, b.2.2.2.2) := fun ds vs => by
      rw [List.map_map]
      exact List.map_congr_left fun t _ => fin_bare ds t
    rw [e, e, h3]
end Tk
end Go.Proofs.YtaknfofppknloaaGreatDoor
namespace Go.Proofs.YtaknfofppknloaaGreatDoor
open Go Go.RowKit
set_option linter.all false
section
variable {P : Program} {w : World}
theorem eqFields_nil (d : Nat) (xs ys : Array Value) : (Op.eqFields d xs ys []).run P w = .ok true w := rfl
theorem eqFields_cons {d : Nat} {xs ys : Array Value} {f : Field} {fs : List Field} {a b : Value} {r R : Bool} (hn : f.name ≠ "_")
    (ha : (part f.type xs f.offset).run P w = .ok a w) (hb : (part f.type ys f.offset).run P w = .ok b w) (hr : (Op.equalIn d f.type a b).run P w = .ok r w)
    (hR : (Op.eqFields d xs ys fs).run P w = .ok R w) : (Op.eqFields d xs ys (f :: fs)).run P w = .ok (r && R) w := by
  simp only [Op.eqFields]
  rw [if_pos hn]
  simp only [Sem.run_bind, ha, Result.andThen_ok, hb, hr, Sem.run_ite]
  cases r with
  | false => simp
  | true => simpa using hR
theorem eq_str_in (d : Nat) (t : TypeId) (x y : List UInt8) (h : P.underlying t = some .string) : (Op.equalIn (d + 1) t (.string ⟨x.toArray⟩) (.string ⟨y.toArray⟩)).run P w = .ok (decide (x = y)) w := by
  rw [run_equalIn_string w d t _ _ h, ByteArray.toList_eq, ByteArray.toList_eq]
  congr 1
  by_cases hxy : x = y
  · subst hxy; simp
  · have : (x == y) = false := by simpa using hxy
    simp [hxy]
theorem eq_int_in (d : Nat) (t : TypeId) (k k' : IntKind) (x y : Int) (h : P.underlying t = some (.int k')) : (Op.equalIn (d + 1) t (.int k x) (.int k y)).run P w = .ok (decide (x = y)) w := by
  rw [run_equalIn_int w d t k k' x y h]
  congr 1
end
end Go.Proofs.YtaknfofppknloaaGreatDoor
namespace Go.Proofs.YtaknfofppknloaaGreatDoor
open Go Go.RowKit
set_option linter.all false
namespace Tk
/-- a place, as whole numbers -/
structure P2 where
  l : Int
  c : Int
  deriving DecidableEq
theorem pos_under : Tryz.prog.underlying 29 = some (.struct (Tryz.prog.fieldsOf 29)) := by kernel_rfl
theorem pos_stood : Tryz.prog.stoodInHeld 29 = false := by kernel_rfl
theorem pos_guard : Tryz.prog.eqGuardType Tryz.prog.depth 29 = false := by kernel_rfl
theorem pos_fields : (Tryz.prog.fieldsOf 29).toList = [{ name := "Line", type := 3, offset := 0, embedded := false, tag := "", pkgPath := "", byteOffset := 0 }, { name := "Col", type := 3, offset := 1, embedded := false, tag := "", pkgPath := "", byteOffset := 8 }] := by kernel_rfl
/-- are two of them the same? -/
def posEq (a b : P2) : Bool := decide (a = b)
@[go_sem] theorem guard_pos (op : BinOp) (x y : Operand) (xs ys : Array Value) (w : World) : (eqGuard op 29 x y (.agg xs) (.agg ys)).run Tryz.prog w = .ok () w := run_eqGuard_agg w op _ x y xs ys pos_guard
theorem run_pos_in (l0 : Int) (c0 : Int) (l1 : Int) (c1 : Int) (w : World) : (Op.equalIn 10000 29 (.agg #[.int .i64 l0, .int .i64 c0]) (.agg #[.int .i64 l1, .int .i64 c1])).run Tryz.prog w = .ok (posEq (⟨l0, c0⟩ : P2) (⟨l1, c1⟩ : P2)) w := by
  rw [run_equalIn_struct w 9999 _ _ _ pos_under pos_stood, pos_fields]
  have e : posEq (⟨l0, c0⟩ : P2) (⟨l1, c1⟩ : P2) = (decide (l0 = l1) && (decide (c0 = c1) && true)) := by
    unfold posEq
    rw [Bool.eq_iff_iff]
    simp [and_assoc]
  rw [e]
  refine eqFields_cons (a := .int .i64 l0) (b := .int .i64 l1) (by decide) (by go_simp) (by go_simp) (eq_int_in 9998 3 .i64 .i64 _ _ Tryz.underlying3) ?_
  refine eqFields_cons (a := .int .i64 c0) (b := .int .i64 c1) (by decide) (by go_simp) (by go_simp) (eq_int_in 9998 3 .i64 .i64 _ _ Tryz.underlying3) ?_
  exact eqFields_nil _ _ _
@[go_sem high] theorem run_neq_pos (l0 : Int) (c0 : Int) (l1 : Int) (c1 : Int) (w : World) : (binOp .neq 29 (.agg #[.int .i64 l0, .int .i64 c0]) (.agg #[.int .i64 l1, .int .i64 c1])).run Tryz.prog w = .ok (.bool (!posEq (⟨l0, c0⟩ : P2) (⟨l1, c1⟩ : P2))) w := by
  rw [run_neq_struct, run_pos_in]
  rfl
@[go_sem high] theorem run_eql_pos (l0 : Int) (c0 : Int) (l1 : Int) (c1 : Int) (w : World) : (binOp .eql 29 (.agg #[.int .i64 l0, .int .i64 c0]) (.agg #[.int .i64 l1, .int .i64 c1])).run Tryz.prog w = .ok (.bool (posEq (⟨l0, c0⟩ : P2) (⟨l1, c1⟩ : P2))) w := by
  rw [run_eql_struct, run_pos_in]
  rfl
end Tk
end Go.Proofs.YtaknfofppknloaaGreatDoor
namespace Go.Proofs.YtaknfofppknloaaGreatDoor
open Go Go.RowKit Go.Extern.Stop Go.Stop Go.Extern
set_option linter.all false
theorem globs_size : Tryz.prog.globals.size = 7 := by kernel_rfl
theorem valueOfP (t : Addr) (w : World) : (ReflectliteValue.unpack (.iface 62 (.pointer (some t)))).run Tryz.prog w
    = .ok (.agg #[.pointer (some ⟨7, 62, none⟩), .pointer (some ⟨w.heap.size, 0, none⟩), .int .u64 150]) (w.alloc (.cells #[.pointer (some t)] 62)) := by kernel_rfl
theorem typeP (a : Addr) (w : World) : (ReflectliteValue.methodAny (ReflectliteValue.valueError "reflectlite.Value.Type" 0) (fun t _ _ _ => ReflectliteType.toType t) #[.agg #[.pointer (some ⟨7, 62, none⟩), .pointer (some a), .int .u64 150]]).run Tryz.prog w
    = .ok (.iface 96 (.agg #[.pointer (some ⟨7, 62, none⟩)])) w := by kernel_rfl
theorem methodKind (h : Value) (w : World) : (Go.method 272 96 (.agg #[h]) "Kind").run Tryz.prog w = .ok (108, h) w := by kernel_rfl
theorem kindP (w : World) : ((ReflectliteType.abiMethod fun t => (fun a : Nat => Value.int IntKind.u8 (a : Int)) <$> Rtype.kind t) #[.pointer (some ⟨7, 62, none⟩)]).run Tryz.prog w = .ok (.int .u8 22) w := by kernel_rfl
theorem kindE (w : World) : ((ReflectliteType.abiMethod fun t => (fun a : Nat => Value.int IntKind.u8 (a : Int)) <$> Rtype.kind t) #[.pointer (some ⟨7, 32, none⟩)]).run Tryz.prog w = .ok (.int .u8 2) w := by kernel_rfl
theorem rlm (z : Sem Value) (f : TypeId → Addr → Nat → Nat → Sem Value) (v : Value) :
    ReflectliteValue.method z f #[v] = (do match ← ReflectliteValue.parts v with | none => z | some (t, a, fl) => f t a fl (fl % 32)) := rfl
theorem partsP (a : Addr) (w : World) : (ReflectliteValue.parts (.agg #[.pointer (some ⟨7, 62, none⟩), .pointer (some a), .int .u64 150])).run Tryz.prog w = .ok (some (62, a, 150)) w := by kernel_rfl
theorem isNilP (a p : Addr) (W : World) (ha : W.cell? a = some (.pointer (some p))) :
    (ReflectliteValue.method (ReflectliteValue.valueError "reflectlite.Value.IsNil" 0) ReflectliteValue.isNil #[.agg #[.pointer (some ⟨7, 62, none⟩), .pointer (some a), .int .u64 150]]).run Tryz.prog W = .ok (.bool false) W := by
  rw [rlm]
  simp only [Sem.run_bind, partsP, Result.andThen]
  simp [ReflectliteValue.isNil, loadVar, isAgg, underlying, Tryz.underlying62, ha, Result.andThen]
theorem methodElem (h : Value) (w : World) : (Go.method 272 96 (.agg #[h]) "Elem").run Tryz.prog w = .ok (120, .agg #[h]) w := by kernel_rfl
theorem methodImplements (h : Value) (w : World) : (Go.method 272 96 (.agg #[h]) "Implements").run Tryz.prog w = .ok (121, .agg #[h]) w := by kernel_rfl
theorem methodAssignableTo (h : Value) (w : World) : (Go.method 272 96 (.agg #[h]) "AssignableTo").run Tryz.prog w = .ok (118, .agg #[h]) w := by kernel_rfl
theorem elemP (w : World) : (ReflectliteType.method ReflectliteType.elem #[.agg #[.pointer (some ⟨7, 62, none⟩)]]).run Tryz.prog w = .ok (.iface 96 (.agg #[.pointer (some ⟨7, 32, none⟩)])) w := by kernel_rfl
theorem implementsE (w : World) : (ReflectliteType.relation "Implements" ReflectliteType.implements_ #[.agg #[.pointer (some ⟨7, 32, none⟩)], .iface 96 (.agg #[.pointer (some ⟨7, 25, none⟩)])]).run Tryz.prog w = .ok (.bool true) w := by kernel_rfl
theorem typeOfE (v : Value) (w : World) : (ReflectliteType.typeOf #[.iface 32 v]).run Tryz.prog w = .ok (.iface 96 (.agg #[.pointer (some ⟨7, 32, none⟩)])) w := by kernel_rfl
theorem assignableE (w : World) : (ReflectliteType.relation "AssignableTo" ReflectliteType.assignableTo #[.agg #[.pointer (some ⟨7, 32, none⟩)], .iface 96 (.agg #[.pointer (some ⟨7, 32, none⟩)])]).run Tryz.prog w = .ok (.bool true) w := by kernel_rfl
theorem valueOfE (n : Int) (w : World) : (ReflectliteValue.unpack (.iface 32 (.int .i64 n))).run Tryz.prog w
    = .ok (.agg #[.pointer (some ⟨7, 32, none⟩), .pointer (some ⟨w.heap.size, 0, none⟩), .int .u64 130]) (w.alloc (.cells #[.int .i64 n] 32)) := by kernel_rfl
theorem elemOfP (w : World) : (Rtype.elem? 62).run Tryz.prog w = .ok (some 32) w := by kernel_rfl
theorem mkE (p : Addr) (w : World) : (ReflectliteValue.mk 32 p ReflectliteValue.flagAddr).run Tryz.prog w = .ok (.agg #[.pointer (some ⟨7, 32, none⟩), .pointer (some p), .int .u64 386]) w := by kernel_rfl
theorem elemVP (a p : Addr) (W : World) (ha : W.cell? a = some (.pointer (some p))) :
    (ReflectliteValue.method (ReflectliteValue.valueError "reflectlite.Value.Elem" 0) ReflectliteValue.elem #[.agg #[.pointer (some ⟨7, 62, none⟩), .pointer (some a), .int .u64 150]]).run Tryz.prog W
      = .ok (.agg #[.pointer (some ⟨7, 32, none⟩), .pointer (some p), .int .u64 386]) W := by
  rw [rlm]
  simp only [Sem.run_bind, partsP, Result.andThen]
  simp [ReflectliteValue.elem, loadVar, isAgg, underlying, Tryz.underlying62, ha, Result.andThen, elemOfP, mkE]
theorem rls (v x : Value) : ReflectliteValue.set #[v, x] = (do
    let (some (dst, a, fl), some (src, b, _)) := (← ReflectliteValue.parts v, ← ReflectliteValue.parts x)
      | unsupported (.noEntry "extern/(internal/reflectlite.Value).Set.zeroValue")
    if fl / ReflectliteValue.flagAddr % 2 == 0 then unsupported (.noEntry "extern/(internal/reflectlite.Value).Set.unaddressable")
    let val ← loadVar src b
    if ← Rtype.directlyAssignable dst src then storeVar dst a val
    else if ← Rtype.implements dst src then
      if (← Rtype.kind src) == 20 then
        match val with
        | .nilIface => unsupported (.noEntry "extern/reflectlite: a nil value of one interface type handed on as a value of another")
        | _ => storeVar dst a val
      else storeVar dst a (.iface src val)
    else panicString ("reflectlite.Set: value of type " ++ (← Rtype.spelt src) ++ " is not assignable to type " ++ (← Rtype.spelt dst))
    pure (.tuple #[])) := rfl
theorem partsEa (a : Addr) (w : World) : (ReflectliteValue.parts (.agg #[.pointer (some ⟨7, 32, none⟩), .pointer (some a), .int .u64 386])).run Tryz.prog w = .ok (some (32, a, 386)) w := by kernel_rfl
theorem partsE (a : Addr) (w : World) : (ReflectliteValue.parts (.agg #[.pointer (some ⟨7, 32, none⟩), .pointer (some a), .int .u64 130])).run Tryz.prog w = .ok (some (32, a, 130)) w := by kernel_rfl
theorem directE (w : World) : (Rtype.directlyAssignable 32 32).run Tryz.prog w = .ok true w := by kernel_rfl
theorem sizeE (w : World) : (sizeOf 32).run Tryz.prog w = .ok 1 w := by kernel_rfl
theorem setE (ta b : Addr) (n : Int) (old : Value) (W : World) (hb : W.cell? b = some (.int .i64 n)) (ht : W.cell? ta = some old) (hf : W.frozen? ta = false) :
    (ReflectliteValue.set #[.agg #[.pointer (some ⟨7, 32, none⟩), .pointer (some ta), .int .u64 386], .agg #[.pointer (some ⟨7, 32, none⟩), .pointer (some b), .int .u64 130]]).run Tryz.prog W
      = .ok (.tuple #[]) (W.setCell ta (.int .i64 n)) := by
  rw [rls]
  simp only [Sem.run_bind, partsEa, partsE, Result.andThen]
  simp [ReflectliteValue.flagAddr, loadVar, isAgg, underlying, Tryz.underlying32, hb, Result.andThen, directE, storeVar, Value.cells, storeCells, Addr.add]
  rw [run_store Tryz.prog W ta _ _ (by rfl)]
  simp [ht, hf]
set_option maxRecDepth 100000 in
set_option maxHeartbeats 4000000 in
theorem as_hit (n : Int) (t : Addr) (old : Value) (w : World) (hg : w.cell? ⟨0, 0, none⟩ = some (.iface 96 (.agg #[.pointer (some ⟨7, 25, none⟩)]))) (ht0 : w.cell? t = some old) (hf0 : w.frozen? t = false) :
    Calls Tryz.prog 19 #[.iface 32 (.int .i64 n), .iface 62 (.pointer (some t))] w fun ev w' => ev = .returned (.bool true) ∧ ∃ o1 o2 o3 o4, w' = ((((w.alloc o1).alloc o2).alloc o3).alloc o4).setCell t (.int .i64 n) := by
  have h6 := @run_callFunc_extern Tryz.prog 45 _ (fun args => ReflectliteValue.unpack (args.getD 0 (.tuple #[]))) Tryz.func45 (by kernel_rfl) (by kernel_rfl) (by kernel_rfl) (by kernel_rfl)
  have h7 := @run_callFunc_extern Tryz.prog 46 _ (ReflectliteValue.methodAny (ReflectliteValue.valueError "reflectlite.Value.Type" 0) (fun t _ _ _ => ReflectliteType.toType t)) Tryz.func46 (by kernel_rfl) (by kernel_rfl) (by kernel_rfl) (by kernel_rfl)
  have h8 := @run_callFunc_extern Tryz.prog 47 _ (ReflectliteValue.method (ReflectliteValue.valueError "reflectlite.Value.IsNil" 0) ReflectliteValue.isNil) Tryz.func47 (by kernel_rfl) (by kernel_rfl) (by kernel_rfl) (by kernel_rfl)
  have h27 := @run_callFunc_extern Tryz.prog 108 _ (ReflectliteType.abiMethod fun t => do pure (.int .u8 (← Rtype.kind t))) Tryz.func108 (by kernel_rfl) (by kernel_rfl) (by kernel_rfl) (by kernel_rfl)
  have h37 := @run_callFunc_extern Tryz.prog 120 _ (ReflectliteType.method ReflectliteType.elem) Tryz.func120 (by kernel_rfl) (by kernel_rfl) (by kernel_rfl) (by kernel_rfl)
  have h38 := @run_callFunc_extern Tryz.prog 121 _ (ReflectliteType.relation "Implements" ReflectliteType.implements_) Tryz.func121 (by kernel_rfl) (by kernel_rfl) (by kernel_rfl) (by kernel_rfl)
  have h10 := @run_callFunc_extern Tryz.prog 65 _ ReflectliteType.typeOf Tryz.func65 (by kernel_rfl) (by kernel_rfl) (by kernel_rfl) (by kernel_rfl)
  have h35 := @run_callFunc_extern Tryz.prog 118 _ (ReflectliteType.relation "AssignableTo" ReflectliteType.assignableTo) Tryz.func118 (by kernel_rfl) (by kernel_rfl) (by kernel_rfl) (by kernel_rfl)
  have h11 := @run_callFunc_extern Tryz.prog 66 _ (ReflectliteValue.method (ReflectliteValue.valueError "reflectlite.Value.Elem" 0) ReflectliteValue.elem) Tryz.func66 (by kernel_rfl) (by kernel_rfl) (by kernel_rfl) (by kernel_rfl)
  have h12 := @run_callFunc_extern Tryz.prog 67 _ ReflectliteValue.set Tryz.func67 (by kernel_rfl) (by kernel_rfl) (by kernel_rfl) (by kernel_rfl)
  have tO := typeOfE
  have mA := methodAssignableTo
  have aE := assignableE
  have vE := valueOfE
  have f6 := valueOfP
  have f7 := typeP
  have mK := methodKind
  have mE := methodElem
  have mI := methodImplements
  have kP := kindP
  have kE := kindE
  have eP := elemP
  have iE := implementsE
  have n8 := isNilP ⟨w.heap.size, 0, none⟩ t ((w.alloc (.cells #[.pointer (some t)] 62)).alloc (.cells #[.pointer (some ⟨7, 62, none⟩), .pointer (some ⟨w.heap.size, 0, none⟩), .int .u64 150] 78)) (by simp)
  have hlt : 0 < w.heap.size := World.block_lt_of_cell? w _ hg
  have hg2 : ((w.alloc (.cells #[.pointer (some t)] 62)).alloc (.cells #[.pointer (some ⟨7, 62, none⟩), .pointer (some ⟨w.heap.size, 0, none⟩), .int .u64 150] 78)).cell? ⟨0, 0, none⟩ = some (.iface 96 (.agg #[.pointer (some ⟨7, 25, none⟩)])) := by
    rw [World.cell?_alloc_lt _ _ ⟨0, 0, none⟩ (by first | (simp; done) | (simp; omega)), World.cell?_alloc_lt _ _ ⟨0, 0, none⟩ hlt]; exact hg
  have htl : t.block < w.heap.size := World.block_lt_of_cell? w _ ht0
  have el := elemVP ⟨w.heap.size, 0, none⟩ t (((w.alloc (.cells #[.pointer (some t)] 62)).alloc (.cells #[.pointer (some ⟨7, 62, none⟩), .pointer (some ⟨w.heap.size, 0, none⟩), .int .u64 150] 78)).alloc (.cells #[.pointer (some ⟨7, 62, none⟩), .pointer (some ⟨w.heap.size, 0, none⟩), .int .u64 150] 78)) (by rw [World.cell?_alloc_lt _ _ ⟨w.heap.size, 0, none⟩ (by simp; omega)]; simp)
  have st := setE t ⟨w.heap.size + 1 + 1 + 1, 0, none⟩ n old ((((w.alloc (.cells #[.pointer (some t)] 62)).alloc (.cells #[.pointer (some ⟨7, 62, none⟩), .pointer (some ⟨w.heap.size, 0, none⟩), .int .u64 150] 78)).alloc (.cells #[.pointer (some ⟨7, 62, none⟩), .pointer (some ⟨w.heap.size, 0, none⟩), .int .u64 150] 78)).alloc (.cells #[.int .i64 n] 32))
    (by rw [World.cell?_alloc_at _ _ _ _ (by simp)]; rfl)
    (by rw [World.cell?_alloc_lt _ _ t (by simp; omega), World.cell?_alloc_lt _ _ t (by simp; omega), World.cell?_alloc_lt _ _ t (by simp; omega), World.cell?_alloc_lt _ _ t htl]; exact ht0)
    (by rw [World.frozen?_alloc_old _ _ t (by simp; omega), World.frozen?_alloc_old _ _ t (by simp; omega), World.frozen?_alloc_old _ _ t (by simp; omega), World.frozen?_alloc_old _ _ t (Nat.ne_of_lt htl)]; exact hf0)
  go_enter Tryz.func19, Tryz.ntmps19
  go_wp2
  refine wp_loop_rounds 1 ?_
  rw [rounds_succ]
  go_wp2
  go_ret
  exact ⟨rfl, _, _, _, _, rfl⟩
end Go.Proofs.YtaknfofppknloaaGreatDoor
namespace Go.Proofs.YtaknfofppknloaaGreatDoor
open Go Go.RowKit Go.Extern.Stop Go.Stop Go.Extern
set_option linter.all false
theorem valueOfPF (t : Addr) (w : World) : (ReflectliteValue.unpack (.iface 59 (.pointer (some t)))).run Tryz.prog w
    = .ok (.agg #[.pointer (some ⟨7, 59, none⟩), .pointer (some ⟨w.heap.size, 0, none⟩), .int .u64 150]) (w.alloc (.cells #[.pointer (some t)] 59)) := by kernel_rfl
theorem typePF (a : Addr) (w : World) : (ReflectliteValue.methodAny (ReflectliteValue.valueError "reflectlite.Value.Type" 0) (fun t _ _ _ => ReflectliteType.toType t) #[.agg #[.pointer (some ⟨7, 59, none⟩), .pointer (some a), .int .u64 150]]).run Tryz.prog w
    = .ok (.iface 96 (.agg #[.pointer (some ⟨7, 59, none⟩)])) w := by kernel_rfl
theorem kindPF (w : World) : ((ReflectliteType.abiMethod fun t => (fun a : Nat => Value.int IntKind.u8 (a : Int)) <$> Rtype.kind t) #[.pointer (some ⟨7, 59, none⟩)]).run Tryz.prog w = .ok (.int .u8 22) w := by kernel_rfl
theorem kindEF (w : World) : ((ReflectliteType.abiMethod fun t => (fun a : Nat => Value.int IntKind.u8 (a : Int)) <$> Rtype.kind t) #[.pointer (some ⟨7, 46, none⟩)]).run Tryz.prog w = .ok (.int .u8 22) w := by kernel_rfl
theorem partsPF (a : Addr) (w : World) : (ReflectliteValue.parts (.agg #[.pointer (some ⟨7, 59, none⟩), .pointer (some a), .int .u64 150])).run Tryz.prog w = .ok (some (59, a, 150)) w := by kernel_rfl
theorem isNilPF (a p : Addr) (W : World) (ha : W.cell? a = some (.pointer (some p))) :
    (ReflectliteValue.method (ReflectliteValue.valueError "reflectlite.Value.IsNil" 0) ReflectliteValue.isNil #[.agg #[.pointer (some ⟨7, 59, none⟩), .pointer (some a), .int .u64 150]]).run Tryz.prog W = .ok (.bool false) W := by
  rw [rlm]
  simp only [Sem.run_bind, partsPF, Result.andThen]
  simp [ReflectliteValue.isNil, loadVar, isAgg, underlying, Tryz.underlying59, ha, Result.andThen]
theorem elemPF (w : World) : (ReflectliteType.method ReflectliteType.elem #[.agg #[.pointer (some ⟨7, 59, none⟩)]]).run Tryz.prog w = .ok (.iface 96 (.agg #[.pointer (some ⟨7, 46, none⟩)])) w := by kernel_rfl
theorem implementsEF (w : World) : (ReflectliteType.relation "Implements" ReflectliteType.implements_ #[.agg #[.pointer (some ⟨7, 46, none⟩)], .iface 96 (.agg #[.pointer (some ⟨7, 25, none⟩)])]).run Tryz.prog w = .ok (.bool true) w := by kernel_rfl
theorem typeOfEF (v : Value) (w : World) : (ReflectliteType.typeOf #[.iface 46 v]).run Tryz.prog w = .ok (.iface 96 (.agg #[.pointer (some ⟨7, 46, none⟩)])) w := by kernel_rfl
theorem assignableEF (w : World) : (ReflectliteType.relation "AssignableTo" ReflectliteType.assignableTo #[.agg #[.pointer (some ⟨7, 46, none⟩)], .iface 96 (.agg #[.pointer (some ⟨7, 46, none⟩)])]).run Tryz.prog w = .ok (.bool true) w := by kernel_rfl
theorem valueOfEF (n : Addr) (w : World) : (ReflectliteValue.unpack (.iface 46 (.pointer (some n)))).run Tryz.prog w
    = .ok (.agg #[.pointer (some ⟨7, 46, none⟩), .pointer (some ⟨w.heap.size, 0, none⟩), .int .u64 150]) (w.alloc (.cells #[.pointer (some n)] 46)) := by kernel_rfl
theorem elemOfPF (w : World) : (Rtype.elem? 59).run Tryz.prog w = .ok (some 46) w := by kernel_rfl
theorem mkEF (p : Addr) (w : World) : (ReflectliteValue.mk 46 p ReflectliteValue.flagAddr).run Tryz.prog w = .ok (.agg #[.pointer (some ⟨7, 46, none⟩), .pointer (some p), .int .u64 406]) w := by kernel_rfl
theorem elemVPF (a p : Addr) (W : World) (ha : W.cell? a = some (.pointer (some p))) :
    (ReflectliteValue.method (ReflectliteValue.valueError "reflectlite.Value.Elem" 0) ReflectliteValue.elem #[.agg #[.pointer (some ⟨7, 59, none⟩), .pointer (some a), .int .u64 150]]).run Tryz.prog W
      = .ok (.agg #[.pointer (some ⟨7, 46, none⟩), .pointer (some p), .int .u64 406]) W := by
  rw [rlm]
  simp only [Sem.run_bind, partsPF, Result.andThen]
  simp [ReflectliteValue.elem, loadVar, isAgg, underlying, Tryz.underlying59, ha, Result.andThen, elemOfPF, mkEF]
theorem partsEaF (a : Addr) (w : World) : (ReflectliteValue.parts (.agg #[.pointer (some ⟨7, 46, none⟩), .pointer (some a), .int .u64 406])).run Tryz.prog w = .ok (some (46, a, 406)) w := by kernel_rfl
theorem partsEF (a : Addr) (w : World) : (ReflectliteValue.parts (.agg #[.pointer (some ⟨7, 46, none⟩), .pointer (some a), .int .u64 150])).run Tryz.prog w = .ok (some (46, a, 150)) w := by kernel_rfl
theorem directEF (w : World) : (Rtype.directlyAssignable 46 46).run Tryz.prog w = .ok true w := by kernel_rfl
theorem sizeEF (w : World) : (sizeOf 46).run Tryz.prog w = .ok 1 w := by kernel_rfl
theorem setEF (ta b : Addr) (n : Addr) (old : Value) (W : World) (hb : W.cell? b = some (.pointer (some n))) (ht : W.cell? ta = some old) (hf : W.frozen? ta = false) :
    (ReflectliteValue.set #[.agg #[.pointer (some ⟨7, 46, none⟩), .pointer (some ta), .int .u64 406], .agg #[.pointer (some ⟨7, 46, none⟩), .pointer (some b), .int .u64 150]]).run Tryz.prog W
      = .ok (.tuple #[]) (W.setCell ta (.pointer (some n))) := by
  rw [rls]
  simp only [Sem.run_bind, partsEaF, partsEF, Result.andThen]
  simp [ReflectliteValue.flagAddr, loadVar, isAgg, underlying, Tryz.underlying46, hb, Result.andThen, directEF, storeVar, Value.cells, storeCells, Addr.add]
  rw [run_store Tryz.prog W ta _ _ (by rfl)]
  simp [ht, hf]
set_option maxRecDepth 100000 in
set_option maxHeartbeats 4000000 in
theorem as_hitF (n : Addr) (t : Addr) (old : Value) (w : World) (hg : w.cell? ⟨0, 0, none⟩ = some (.iface 96 (.agg #[.pointer (some ⟨7, 25, none⟩)]))) (ht0 : w.cell? t = some old) (hf0 : w.frozen? t = false) :
    Calls Tryz.prog 19 #[.iface 46 (.pointer (some n)), .iface 59 (.pointer (some t))] w fun ev w' => ev = .returned (.bool true) ∧ ∃ o1 o2 o3 o4, w' = ((((w.alloc o1).alloc o2).alloc o3).alloc o4).setCell t (.pointer (some n)) := by
  have h6 := @run_callFunc_extern Tryz.prog 45 _ (fun args => ReflectliteValue.unpack (args.getD 0 (.tuple #[]))) Tryz.func45 (by kernel_rfl) (by kernel_rfl) (by kernel_rfl) (by kernel_rfl)
  have h7 := @run_callFunc_extern Tryz.prog 46 _ (ReflectliteValue.methodAny (ReflectliteValue.valueError "reflectlite.Value.Type" 0) (fun t _ _ _ => ReflectliteType.toType t)) Tryz.func46 (by kernel_rfl) (by kernel_rfl) (by kernel_rfl) (by kernel_rfl)
  have h8 := @run_callFunc_extern Tryz.prog 47 _ (ReflectliteValue.method (ReflectliteValue.valueError "reflectlite.Value.IsNil" 0) ReflectliteValue.isNil) Tryz.func47 (by kernel_rfl) (by kernel_rfl) (by kernel_rfl) (by kernel_rfl)
  have h27 := @run_callFunc_extern Tryz.prog 108 _ (ReflectliteType.abiMethod fun t => do pure (.int .u8 (← Rtype.kind t))) Tryz.func108 (by kernel_rfl) (by kernel_rfl) (by kernel_rfl) (by kernel_rfl)
  have h37 := @run_callFunc_extern Tryz.prog 120 _ (ReflectliteType.method ReflectliteType.elem) Tryz.func120 (by kernel_rfl) (by kernel_rfl) (by kernel_rfl) (by kernel_rfl)
  have h38 := @run_callFunc_extern Tryz.prog 121 _ (ReflectliteType.relation "Implements" ReflectliteType.implements_) Tryz.func121 (by kernel_rfl) (by kernel_rfl) (by kernel_rfl) (by kernel_rfl)
  have h10 := @run_callFunc_extern Tryz.prog 65 _ ReflectliteType.typeOf Tryz.func65 (by kernel_rfl) (by kernel_rfl) (by kernel_rfl) (by kernel_rfl)
  have h35 := @run_callFunc_extern Tryz.prog 118 _ (ReflectliteType.relation "AssignableTo" ReflectliteType.assignableTo) Tryz.func118 (by kernel_rfl) (by kernel_rfl) (by kernel_rfl) (by kernel_rfl)
  have h11 := @run_callFunc_extern Tryz.prog 66 _ (ReflectliteValue.method (ReflectliteValue.valueError "reflectlite.Value.Elem" 0) ReflectliteValue.elem) Tryz.func66 (by kernel_rfl) (by kernel_rfl) (by kernel_rfl) (by kernel_rfl)
  have h12 := @run_callFunc_extern Tryz.prog 67 _ ReflectliteValue.set Tryz.func67 (by kernel_rfl) (by kernel_rfl) (by kernel_rfl) (by kernel_rfl)
  have tO := typeOfEF
  have mA := methodAssignableTo
  have aE := assignableEF
  have vE := valueOfEF
  have f6 := valueOfPF
  have f7 := typePF
  have mK := methodKind
  have mE := methodElem
  have mI := methodImplements
  have kP := kindPF
  have kE := kindEF
  have eP := elemPF
  have iE := implementsEF
  have n8 := isNilPF ⟨w.heap.size, 0, none⟩ t ((w.alloc (.cells #[.pointer (some t)] 59)).alloc (.cells #[.pointer (some ⟨7, 59, none⟩), .pointer (some ⟨w.heap.size, 0, none⟩), .int .u64 150] 78)) (by simp)
  have hlt : 0 < w.heap.size := World.block_lt_of_cell? w _ hg
  have hg2 : ((w.alloc (.cells #[.pointer (some t)] 59)).alloc (.cells #[.pointer (some ⟨7, 59, none⟩), .pointer (some ⟨w.heap.size, 0, none⟩), .int .u64 150] 78)).cell? ⟨0, 0, none⟩ = some (.iface 96 (.agg #[.pointer (some ⟨7, 25, none⟩)])) := by
    rw [World.cell?_alloc_lt _ _ ⟨0, 0, none⟩ (by first | (simp; done) | (simp; omega)), World.cell?_alloc_lt _ _ ⟨0, 0, none⟩ hlt]; exact hg
  have htl : t.block < w.heap.size := World.block_lt_of_cell? w _ ht0
  have el := elemVPF ⟨w.heap.size, 0, none⟩ t (((w.alloc (.cells #[.pointer (some t)] 59)).alloc (.cells #[.pointer (some ⟨7, 59, none⟩), .pointer (some ⟨w.heap.size, 0, none⟩), .int .u64 150] 78)).alloc (.cells #[.pointer (some ⟨7, 59, none⟩), .pointer (some ⟨w.heap.size, 0, none⟩), .int .u64 150] 78)) (by rw [World.cell?_alloc_lt _ _ ⟨w.heap.size, 0, none⟩ (by simp; omega)]; simp)
  have st := setEF t ⟨w.heap.size + 1 + 1 + 1, 0, none⟩ n old ((((w.alloc (.cells #[.pointer (some t)] 59)).alloc (.cells #[.pointer (some ⟨7, 59, none⟩), .pointer (some ⟨w.heap.size, 0, none⟩), .int .u64 150] 78)).alloc (.cells #[.pointer (some ⟨7, 59, none⟩), .pointer (some ⟨w.heap.size, 0, none⟩), .int .u64 150] 78)).alloc (.cells #[.pointer (some n)] 46))
    (by rw [World.cell?_alloc_at _ _ _ _ (by simp)]; rfl)
    (by rw [World.cell?_alloc_lt _ _ t (by simp; omega), World.cell?_alloc_lt _ _ t (by simp; omega), World.cell?_alloc_lt _ _ t (by simp; omega), World.cell?_alloc_lt _ _ t htl]; exact ht0)
    (by rw [World.frozen?_alloc_old _ _ t (by simp; omega), World.frozen?_alloc_old _ _ t (by simp; omega), World.frozen?_alloc_old _ _ t (by simp; omega), World.frozen?_alloc_old _ _ t (Nat.ne_of_lt htl)]; exact hf0)
  go_enter Tryz.func19, Tryz.ntmps19
  go_wp2
  refine wp_loop_rounds 1 ?_
  rw [rounds_succ]
  go_wp2
  go_ret
  exact ⟨rfl, _, _, _, _, rfl⟩
theorem noAsF (v : Value) (xT : TypeId) (w : World) : (Instr.typeAssert (.iface 46 v) xT 101 true).run Tryz.prog w = .ok (.tuple #[.nilIface, .bool false]) w := run_typeAssert_lacksB Tryz.underlying101 (by kernel_rfl) (by kernel_rfl) v xT w
theorem hasUnwrapF (v : Value) (xT : TypeId) (w : World) : (Instr.typeAssert (.iface 46 v) xT 104 true).run Tryz.prog w = .ok (.tuple #[.iface 46 v, .bool true]) w := run_typeAssert_hasB Tryz.underlying104 (by kernel_rfl) v xT w
theorem methodUnwrapF (v : Value) (w : World) : (Go.method 272 46 v "Unwrap").run Tryz.prog w = .ok (113, v) w := by kernel_rfl
theorem assignableFE (w : World) : (ReflectliteType.relation "AssignableTo" ReflectliteType.assignableTo #[.agg #[.pointer (some ⟨7, 46, none⟩)], .iface 96 (.agg #[.pointer (some ⟨7, 32, none⟩)])]).run Tryz.prog w = .ok (.bool false) w := by kernel_rfl
set_option maxRecDepth 100000 in
set_option maxHeartbeats 4000000 in
theorem as_deep (n : Int) (fb : Nat) (pl pc : Value) (t : Addr) (old : Value) (w : World) (hg : w.cell? ⟨0, 0, none⟩ = some (.iface 96 (.agg #[.pointer (some ⟨7, 25, none⟩)]))) (hfb : w.heap[fb]? = some (.cells #[pl, pc, .iface 32 (.int .i64 n)] 61 (0, 0))) (ht0 : w.cell? t = some old) (hf0 : w.frozen? t = false) :
    Calls Tryz.prog 19 #[.iface 46 (.pointer (some ⟨fb, 0, none⟩)), .iface 62 (.pointer (some t))] w fun ev w' => ev = .returned (.bool true) ∧ ∃ o1 o2 o3 o4, w' = ((((w.alloc o1).alloc o2).alloc o3).alloc o4).setCell t (.int .i64 n) := by
  have h6 := @run_callFunc_extern Tryz.prog 45 _ (fun args => ReflectliteValue.unpack (args.getD 0 (.tuple #[]))) Tryz.func45 (by kernel_rfl) (by kernel_rfl) (by kernel_rfl) (by kernel_rfl)
  have h7 := @run_callFunc_extern Tryz.prog 46 _ (ReflectliteValue.methodAny (ReflectliteValue.valueError "reflectlite.Value.Type" 0) (fun t _ _ _ => ReflectliteType.toType t)) Tryz.func46 (by kernel_rfl) (by kernel_rfl) (by kernel_rfl) (by kernel_rfl)
  have h8 := @run_callFunc_extern Tryz.prog 47 _ (ReflectliteValue.method (ReflectliteValue.valueError "reflectlite.Value.IsNil" 0) ReflectliteValue.isNil) Tryz.func47 (by kernel_rfl) (by kernel_rfl) (by kernel_rfl) (by kernel_rfl)
  have h27 := @run_callFunc_extern Tryz.prog 108 _ (ReflectliteType.abiMethod fun t => do pure (.int .u8 (← Rtype.kind t))) Tryz.func108 (by kernel_rfl) (by kernel_rfl) (by kernel_rfl) (by kernel_rfl)
  have h37 := @run_callFunc_extern Tryz.prog 120 _ (ReflectliteType.method ReflectliteType.elem) Tryz.func120 (by kernel_rfl) (by kernel_rfl) (by kernel_rfl) (by kernel_rfl)
  have h38 := @run_callFunc_extern Tryz.prog 121 _ (ReflectliteType.relation "Implements" ReflectliteType.implements_) Tryz.func121 (by kernel_rfl) (by kernel_rfl) (by kernel_rfl) (by kernel_rfl)
  have h10 := @run_callFunc_extern Tryz.prog 65 _ ReflectliteType.typeOf Tryz.func65 (by kernel_rfl) (by kernel_rfl) (by kernel_rfl) (by kernel_rfl)
  have h35 := @run_callFunc_extern Tryz.prog 118 _ (ReflectliteType.relation "AssignableTo" ReflectliteType.assignableTo) Tryz.func118 (by kernel_rfl) (by kernel_rfl) (by kernel_rfl) (by kernel_rfl)
  have h11 := @run_callFunc_extern Tryz.prog 66 _ (ReflectliteValue.method (ReflectliteValue.valueError "reflectlite.Value.Elem" 0) ReflectliteValue.elem) Tryz.func66 (by kernel_rfl) (by kernel_rfl) (by kernel_rfl) (by kernel_rfl)
  have h12 := @run_callFunc_extern Tryz.prog 67 _ ReflectliteValue.set Tryz.func67 (by kernel_rfl) (by kernel_rfl) (by kernel_rfl) (by kernel_rfl)
  have tO := typeOfE
  have mA := methodAssignableTo
  have aE := assignableE
  have vE := valueOfE
  have f6 := valueOfP
  have f7 := typeP
  have mK := methodKind
  have mE := methodElem
  have mI := methodImplements
  have kP := kindP
  have kE := kindE
  have eP := elemP
  have iE := implementsE
  have n8 := isNilP ⟨w.heap.size, 0, none⟩ t ((w.alloc (.cells #[.pointer (some t)] 62)).alloc (.cells #[.pointer (some ⟨7, 62, none⟩), .pointer (some ⟨w.heap.size, 0, none⟩), .int .u64 150] 78)) (by simp)
  have hlt : 0 < w.heap.size := World.block_lt_of_cell? w _ hg
  have hg2 : ((w.alloc (.cells #[.pointer (some t)] 62)).alloc (.cells #[.pointer (some ⟨7, 62, none⟩), .pointer (some ⟨w.heap.size, 0, none⟩), .int .u64 150] 78)).cell? ⟨0, 0, none⟩ = some (.iface 96 (.agg #[.pointer (some ⟨7, 25, none⟩)])) := by
    rw [World.cell?_alloc_lt _ _ ⟨0, 0, none⟩ (by first | (simp; done) | (simp; omega)), World.cell?_alloc_lt _ _ ⟨0, 0, none⟩ hlt]; exact hg
  have htl : t.block < w.heap.size := World.block_lt_of_cell? w _ ht0
  have el := elemVP ⟨w.heap.size, 0, none⟩ t (((w.alloc (.cells #[.pointer (some t)] 62)).alloc (.cells #[.pointer (some ⟨7, 62, none⟩), .pointer (some ⟨w.heap.size, 0, none⟩), .int .u64 150] 78)).alloc (.cells #[.pointer (some ⟨7, 62, none⟩), .pointer (some ⟨w.heap.size, 0, none⟩), .int .u64 150] 78)) (by rw [World.cell?_alloc_lt _ _ ⟨w.heap.size, 0, none⟩ (by simp; omega)]; simp)
  have st := setE t ⟨w.heap.size + 1 + 1 + 1, 0, none⟩ n old ((((w.alloc (.cells #[.pointer (some t)] 62)).alloc (.cells #[.pointer (some ⟨7, 62, none⟩), .pointer (some ⟨w.heap.size, 0, none⟩), .int .u64 150] 78)).alloc (.cells #[.pointer (some ⟨7, 62, none⟩), .pointer (some ⟨w.heap.size, 0, none⟩), .int .u64 150] 78)).alloc (.cells #[.int .i64 n] 32))
    (by rw [World.cell?_alloc_at _ _ _ _ (by simp)]; rfl)
    (by rw [World.cell?_alloc_lt _ _ t (by simp; omega), World.cell?_alloc_lt _ _ t (by simp; omega), World.cell?_alloc_lt _ _ t (by simp; omega), World.cell?_alloc_lt _ _ t htl]; exact ht0)
    (by rw [World.frozen?_alloc_old _ _ t (by simp; omega), World.frozen?_alloc_old _ _ t (by simp; omega), World.frozen?_alloc_old _ _ t (by simp; omega), World.frozen?_alloc_old _ _ t (Nat.ne_of_lt htl)]; exact hf0)
  have tOF := typeOfEF
  have aFE := assignableFE
  have nAs := noAsF
  have hUn := hasUnwrapF
  have mUn := methodUnwrapF
  have hc2 : ((((w.alloc (.cells #[.pointer (some t)] 62)).alloc (.cells #[.pointer (some ⟨7, 62, none⟩), .pointer (some ⟨w.heap.size, 0, none⟩), .int .u64 150] 78)).alloc (.cells #[.pointer (some ⟨7, 62, none⟩), .pointer (some ⟨w.heap.size, 0, none⟩), .int .u64 150] 78))).cell? ⟨fb, 2, none⟩ = some (.iface 32 (.int .i64 n)) :=
    bk_cell (bk_alloc (bk_alloc (bk_alloc hfb _) _) _) 2 _ rfl
  go_enter Tryz.func19, Tryz.ntmps19
  go_wp2
  refine wp_loop_rounds 2 ?_
  rw [rounds_succ]
  go_wp2
  rw [rounds_succ]
  go_wp2
  go_ret
  exact ⟨rfl, _, _, _, _, rfl⟩
end Go.Proofs.YtaknfofppknloaaGreatDoor
namespace Go.Proofs.YtaknfofppknloaaGreatDoor
open Go Go.RowKit
set_option linter.all false
namespace Tk
/-- the library's variables -/
structure TW (w : World) : Prop where
  tabs : Lib.Utf8Tabs 4 5 w
  fold : FoldW w
  et : w.cell? ⟨0, 0, none⟩ = some (.iface 96 (.agg #[.pointer (some ⟨7, 25, none⟩)]))
theorem TW.pur {w w' : World} (h : TW w) (hp : Pur w w') : TW w' :=
  ⟨Utf8Tabs_below h.tabs hp, h.fold.pur hp, (hp.cell (World.block_lt_of_cell? w _ h.et)).trans h.et⟩
theorem tell_nil (w : World) : Calls Tryz.prog 7 #[.nilIface] w fun e w' => e = .returned (.tuple #[.int .i64 0, .agg #[.int .i64 0, .int .i64 0]]) ∧ Pur w w' := by
  have c0 : (w.alloc (.cells #[.int .i64 0, .int .i64 0] 29)).cell? ⟨w.heap.size, 0, none⟩ = some (.int .i64 0) := bk_cell (bk_new w _) 0 _ rfl
  have c1 : (w.alloc (.cells #[.int .i64 0, .int .i64 0] 29)).cell? ⟨w.heap.size, 1, none⟩ = some (.int .i64 0) := bk_cell (bk_new w _) 1 _ rfl
  go_enter Tryz.func7, Tryz.ntmps7
  go_wp2
  refine bodyPost_ret (v := .tuple #[.int .i64 0, .agg #[.int .i64 0, .int .i64 0]]) (by simp [results, Tryz.results7, go_sem, c0, c1]) rfl ⟨rfl, (Pur.refl w).alloc _⟩
theorem as_fault (n : Addr) (t : Nat) (old : Value) (w : World) (hW : TW w) (ht : w.heap[t]? = some (.cells #[old] 46 (0, 0))) :
    Calls Tryz.prog 19 #[.iface 46 (.pointer (some n)), .iface 59 (.pointer (some ⟨t, 0, none⟩))] w fun ev w' => ev = .returned (.bool true) ∧ Chg [t] w w' ∧ w'.heap[t]? = some (.cells #[.pointer (some n)] 46 (0, 0)) := by
  refine (as_hitF n ⟨t, 0, none⟩ old w hW.et (bk_cell ht 0 _ rfl) (bk_free ht 0)).mono ?_
  rintro ev w' ⟨rfl, o1, o2, o3, o4, rfl⟩
  exact ⟨rfl, ((((((Chg.refl [t] w).alloc o1).alloc o2).alloc o3).alloc o4).setCell (a := ⟨t, 0, none⟩) (.inl (by simp)) _), bk_set (bk_alloc (bk_alloc (bk_alloc (bk_alloc ht o1) o2) o3) o4) 0 _⟩
theorem as_errno (n : Int) (fb t : Nat) (pl pc old : Value) (w : World) (hW : TW w) (hfb : w.heap[fb]? = some (.cells #[pl, pc, .iface 32 (.int .i64 n)] 61 (0, 0))) (ht : w.heap[t]? = some (.cells #[old] 32 (0, 0))) :
    Calls Tryz.prog 19 #[.iface 46 (.pointer (some ⟨fb, 0, none⟩)), .iface 62 (.pointer (some ⟨t, 0, none⟩))] w fun ev w' => ev = .returned (.bool true) ∧ Chg [t] w w' ∧ w'.heap[t]? = some (.cells #[.int .i64 n] 32 (0, 0)) := by
  refine (as_deep n fb pl pc ⟨t, 0, none⟩ old w hW.et hfb (bk_cell ht 0 _ rfl) (bk_free ht 0)).mono ?_
  rintro ev w' ⟨rfl, o1, o2, o3, o4, rfl⟩
  exact ⟨rfl, ((((((Chg.refl [t] w).alloc o1).alloc o2).alloc o3).alloc o4).setCell (a := ⟨t, 0, none⟩) (.inl (by simp)) _), bk_set (bk_alloc (bk_alloc (bk_alloc (bk_alloc ht o1) o2) o3) o4) 0 _⟩
theorem tell_fault (b : Nat) (l c n : Int) (w : World) (hW : TW w) (hb : w.heap[b]? = some (.cells #[.int .i64 l, .int .i64 c, .iface 32 (.int .i64 n)] 61 (0, 0))) :
    Calls Tryz.prog 7 #[.iface 46 (.pointer (some ⟨b, 0, none⟩))] w fun e w' => e = .returned (.tuple #[.int .i64 n, .agg #[.int .i64 l, .int .i64 c]]) ∧ Pur w w' := by
  obtain ⟨W1, hW1⟩ : ∃ W1, W1 = w.alloc (.cells #[.int .i64 0, .int .i64 0] 29) := ⟨_, rfl⟩
  obtain ⟨W2, hW2⟩ : ∃ W2, W2 = W1.alloc (.cells #[.pointer none] 46) := ⟨_, rfl⟩
  obtain ⟨W3, hW3⟩ : ∃ W3, W3 = W2.alloc (.cells #[.int .i64 0] 32) := ⟨_, rfl⟩
  obtain ⟨W4, hW4⟩ : ∃ W4, W4 = W3.alloc (.cells #[.int .i64 0, .int .i64 0] 29) := ⟨_, rfl⟩
  have s1 : W1.heap.size = w.heap.size + 1 := by rw [hW1]; exact Array.size_push _
  have s2 : W2.heap.size = w.heap.size + 1 + 1 := by rw [hW2, ← s1]; exact Array.size_push _
  have s3 : W3.heap.size = w.heap.size + 1 + 1 + 1 := by rw [hW3, ← s2]; exact Array.size_push _
  have s4 : W4.heap.size = w.heap.size + 1 + 1 + 1 + 1 := by rw [hW4, ← s3]; exact Array.size_push _
  have hP : Pur w W4 := by rw [hW4, hW3, hW2, hW1]; exact ((((Pur.refl w).alloc _).alloc _).alloc _).alloc _
  have b0 : W4.heap[w.heap.size]? = some (.cells #[.int .i64 0, .int .i64 0] 29 (0, 0)) := by
    rw [hW4, hW3, hW2, hW1]; exact bk_alloc (bk_alloc (bk_alloc (bk_new w _) _) _) _
  have b1 : W4.heap[w.heap.size + 1]? = some (.cells #[.pointer none] 46 (0, 0)) := by
    have := bk_new W1 (.cells #[.pointer none] 46)
    rw [s1] at this; rw [hW4, hW3, hW2]; exact bk_alloc (bk_alloc this _) _
  have b2 : W4.heap[w.heap.size + 1 + 1]? = some (.cells #[.int .i64 0] 32 (0, 0)) := by
    have := bk_new W2 (.cells #[.int .i64 0] 32)
    rw [s2] at this; rw [hW4, hW3]; exact bk_alloc this _
  have b3 : W4.heap[w.heap.size + 1 + 1 + 1]? = some (.cells #[.int .i64 0, .int .i64 0] 29 (0, 0)) := by
    have := bk_new W3 (.cells #[.int .i64 0, .int .i64 0] 29)
    rw [s3] at this; rw [hW4]; exact this
  have hlt := bk_lt hb
  have bb := bk_pur hb hP
  have A1 := as_fault ⟨b, 0, none⟩ (w.heap.size + 1) _ W4 (hW.pur hP) b1
  go_enter Tryz.func7, Tryz.ntmps7
  go_wp2_with fail
  rw [← hW1, ← hW2, ← hW3, ← hW4]
  refine A1.mono ?_
  rintro e w1 ⟨rfl, hc1, k1⟩
  have k0 := bk_chg b0 hc1 (by simp only [List.mem_singleton]; omega)
  have k2 := bk_chg b2 hc1 (by simp only [List.mem_singleton]; omega)
  have k3 := bk_chg b3 hc1 (by simp only [List.mem_singleton]; omega)
  have kb := bk_chg bb hc1 (by simp only [List.mem_singleton]; omega)
  have hp1 : Pur w w1 := pur_chg hP hc1 (by intro x hx; simp only [List.mem_singleton] at hx; omega)
  have z1 := bk_cell k1 0 _ rfl
  have zl := bk_cell kb 0 _ rfl
  have zc := bk_cell kb 1 _ rfl
  have z3 := bk_cell k3 0 _ rfl
  have z4 := bk_cell k3 1 _ rfl
  have f3 := bk_free k3 0
  have f4 := bk_free k3 1
  clear A1 hc1 hP b0 b1 b2 b3 bb hb
  go_wp2_with fail
  obtain ⟨W5, hW5⟩ : ∃ W5, W5 = (w1.setCell ⟨w.heap.size + 1 + 1 + 1, 0, none⟩ (.int .i64 l)).setCell ⟨w.heap.size + 1 + 1 + 1, 1, none⟩ (.int .i64 c) := ⟨_, rfl⟩
  have hc5 : Chg [w.heap.size + 1 + 1 + 1] w1 W5 := by
    rw [hW5]; exact ((Chg.refl _ w1).setCell (a := ⟨w.heap.size + 1 + 1 + 1, 0, none⟩) (.inl (by simp)) _).setCell (a := ⟨w.heap.size + 1 + 1 + 1, 1, none⟩) (.inl (by simp)) _
  have m3 : W5.heap[w.heap.size + 1 + 1 + 1]? = some (.cells #[.int .i64 l, .int .i64 c] 29 (0, 0)) := by
    rw [hW5]; exact bk_set (bk_set k3 0 _) 1 _
  have m0 := bk_chg k0 hc5 (by simp only [List.mem_singleton]; omega)
  have m2 := bk_chg k2 hc5 (by simp only [List.mem_singleton]; omega)
  have mb := bk_chg kb hc5 (by simp only [List.mem_singleton]; omega)
  have hp5 : Pur w W5 := pur_chg hp1 hc5 (by intro x hx; simp at hx; omega)
  have A2 := as_errno n b (w.heap.size + 1 + 1) _ _ _ W5 (hW.pur hp5) mb m2
  rw [← hW5]
  refine A2.mono ?_
  rintro e w6 ⟨rfl, hc6, r2⟩
  have r0 := bk_chg m0 hc6 (by simp only [List.mem_singleton]; omega)
  have r3 := bk_chg m3 hc6 (by simp only [List.mem_singleton]; omega)
  have hp6 : Pur w w6 := pur_chg hp5 hc6 (by intro x hx; simp at hx; omega)
  have y0 := bk_cell r0 0 _ rfl
  have y1 := bk_cell r0 1 _ rfl
  have g0 := bk_free r0 0
  have g1 := bk_free r0 1
  have y2 := bk_cell r2 0 _ rfl
  have y3 := bk_cell r3 0 _ rfl
  have y4 := bk_cell r3 1 _ rfl
  clear A2 hc6 hc5 m0 m2 m3 mb k0 k1 k2 k3 kb z1 zl zc z3 z4 f3 f4 hp1 hp5
  go_wp2
  go_region
  go_wp2
  obtain ⟨W7, hW7⟩ : ∃ W7, W7 = (w6.setCell ⟨w.heap.size, 0, none⟩ (.int .i64 l)).setCell ⟨w.heap.size, 1, none⟩ (.int .i64 c) := ⟨_, rfl⟩
  have m0 : W7.heap[w.heap.size]? = some (.cells #[.int .i64 l, .int .i64 c] 29 (0, 0)) := by
    rw [hW7]; exact bk_set (bk_set r0 0 _) 1 _
  have hp7 : Pur w W7 := by rw [hW7]; exact (hp6.setCell (Nat.le_refl _) _).setCell (Nat.le_refl _) _
  have z0 : W7.drew.cell? ⟨w.heap.size, 0, none⟩ = some (.int .i64 l) := bk_cell (bk_drew m0) 0 _ rfl
  have z1 : W7.drew.cell? ⟨w.heap.size, 1, none⟩ = some (.int .i64 c) := bk_cell (bk_drew m0) 1 _ rfl
  rw [← hW7]
  refine bodyPost_ret (v := .tuple #[.int .i64 n, .agg #[.int .i64 l, .int .i64 c]]) (by simp [results, Tryz.results7, go_sem, z0, z1]) rfl ⟨rfl, hp7.drew⟩
end Tk
end Go.Proofs.YtaknfofppknloaaGreatDoor
namespace Go.Proofs.YtaknfofppknloaaGreatDoor
open Go Go.RowKit
set_option linter.all false
namespace Tk
/-- v reads as these attributes -/
def ARead (w : World) (v : Value) (l : List AttrV) : Prop :=
  ∃ a c, v = .slice a l.length c ∧ (l.length ≤ c ∧ l.length ≤ 9223372036854775807) ∧ ∀ (i : Nat) x, l[i]? = some x → ∃ g, a = some ⟨g, 0, none⟩ ∧ g < w.heap.size ∧
    w.cell? ⟨g, i * 4, none⟩ = some (.string ⟨x.nm.toArray⟩) ∧ w.cell? ⟨g, i * 4 + 1, none⟩ = some (.string ⟨x.val.toArray⟩) ∧
    w.cell? ⟨g, i * 4 + 2, none⟩ = some (.int .i64 (x.at_.1 : Int)) ∧ w.cell? ⟨g, i * 4 + 3, none⟩ = some (.int .i64 (x.at_.2 : Int))
/-- v reads as these tokens -/
def TRead (w : World) (v : Value) (ts : List TokV) : Prop :=
  ∃ a c, v = .slice a ts.length c ∧ (ts.length ≤ c ∧ ts.length ≤ 9223372036854775807) ∧ ∀ (i : Nat) t, ts[i]? = some t → ∃ g av, a = some ⟨g, 0, none⟩ ∧ g < w.heap.size ∧
    w.cell? ⟨g, i * 7, none⟩ = some (.int .i64 (t.kind : Int)) ∧ w.cell? ⟨g, i * 7 + 1, none⟩ = some (.string ⟨t.nm.toArray⟩) ∧
    w.cell? ⟨g, i * 7 + 2, none⟩ = some av ∧ w.cell? ⟨g, i * 7 + 3, none⟩ = some (.string ⟨t.text.toArray⟩) ∧
    w.cell? ⟨g, i * 7 + 4, none⟩ = some (.int .i64 (t.at_.1 : Int)) ∧ w.cell? ⟨g, i * 7 + 5, none⟩ = some (.int .i64 (t.at_.2 : Int)) ∧
    w.cell? ⟨g, i * 7 + 6, none⟩ = some (.bool t.empty) ∧ ARead w av t.attrs
theorem ARead.pur {w w' : World} {v : Value} {l : List AttrV} (h : ARead w v l) (hp : Pur w w') : ARead w' v l := by
  obtain ⟨a, c, h1, h2, h3⟩ := h
  refine ⟨a, c, h1, h2, fun i x hx => ?_⟩
  obtain ⟨g, e, hg, k0, k1, k2, k3⟩ := h3 i x hx
  exact ⟨g, e, Nat.lt_of_lt_of_le hg hp.size, (hp.cell hg).trans k0, (hp.cell hg).trans k1, (hp.cell hg).trans k2, (hp.cell hg).trans k3⟩
theorem TRead.pur {w w' : World} {v : Value} {l : List TokV} (h : TRead w v l) (hp : Pur w w') : TRead w' v l := by
  obtain ⟨a, c, h1, h2, h3⟩ := h
  refine ⟨a, c, h1, h2, fun i x hx => ?_⟩
  obtain ⟨g, av, e, hg, k0, k1, k2, k3, k4, k5, k6, k7⟩ := h3 i x hx
  exact ⟨g, av, e, Nat.lt_of_lt_of_le hg hp.size, (hp.cell hg).trans k0, (hp.cell hg).trans k1, (hp.cell hg).trans k2, (hp.cell hg).trans k3, (hp.cell hg).trans k4, (hp.cell hg).trans k5, (hp.cell hg).trans k6, k7.pur hp⟩
theorem add_z (g j : Nat) : (Addr.mk g 0 none).add j = ⟨g, j, none⟩ := by
  unfold Addr.add; split <;> simp_all
theorem ARead.of_own {w : World} {v : Value} {l : List AttrV} (h : w.ownsRow 0 40 4 v l.length (l.flatMap AttrV.cells)) : ARead w v l := by
  rcases h.2 with ⟨rfl, h0⟩ | ⟨g, cap, cur, rfl, hb, hg, hn, hcm, _⟩
  · obtain rfl : l = [] := List.length_eq_zero_iff.1 h0
    exact ⟨none, 0, rfl, ⟨Nat.le_refl _, by simp⟩, fun i x hx => by simp at hx⟩
  · refine ⟨_, _, rfl, ⟨hn, by unfold maxLen at hcm; omega⟩, fun i x hx => ⟨g, rfl, bk_lt hg, ?_, ?_, ?_, ?_⟩⟩
    all_goals
      have hc := h.cells (g := g) rfl
      simp only [add_z] at hc
    · exact hc (i * 4) _ (by rw [Nat.mul_comm i 4]; have := attr_cells l i 0 x hx (by omega); simpa [AttrV.cells] using this)
    · exact hc (i * 4 + 1) _ (by rw [Nat.mul_comm i 4]; have := attr_cells l i 1 x hx (by omega); simpa [AttrV.cells] using this)
    · exact hc (i * 4 + 2) _ (by rw [Nat.mul_comm i 4]; have := attr_cells l i 2 x hx (by omega); simpa [AttrV.cells] using this)
    · exact hc (i * 4 + 3) _ (by rw [Nat.mul_comm i 4]; have := attr_cells l i 3 x hx (by omega); simpa [AttrV.cells] using this)
theorem tok_cells : ∀ (avs : List Value) (ts : List TokV) (k i : Nat) (av : Value) (t : TokV), avs[k]? = some av → ts[k]? = some t → i < 7 → (tokCells avs ts)[7 * k + i]? = (t.cells av)[i]?
  | [], ts, k, i, av, t, h, _, _ => by simp at h
  | a :: avs, [], k, i, av, t, _, h, _ => by simp at h
  | a :: avs, s :: ts, 0, i, av, t, h, h2, hi => by
    obtain rfl : a = av := by simpa using h
    obtain rfl : s = t := by simpa using h2
    unfold tokCells
    rw [List.zip_cons_cons, List.flatMap_cons, List.getElem?_append_left (by simp [TokV.cells]; omega)]
    simp
  | a :: avs, s :: ts, k + 1, i, av, t, h, h2, hi => by
    have := tok_cells avs ts k i av t (by simpa using h) (by simpa using h2) hi
    unfold tokCells at this ⊢
    have hl : (s.cells a).length = 7 := rfl
    rw [List.zip_cons_cons, List.flatMap_cons, List.getElem?_append_right (by rw [hl]; omega), hl, show 7 * (k + 1) + i - 7 = 7 * k + i by omega]
    exact this
theorem TokRow.read {w : World} {B : Nat} {v : Value} {avs : List Value} {ts : List TokV} (h : TokRow w B v avs ts) : TRead w v ts := by
  have ha := h.attrs
  have hl := h.len
  rcases h.toks.2 with ⟨rfl, h0⟩ | ⟨g, cap, cur, rfl, hb, hg, hn, hcm, _⟩
  · obtain rfl : ts = [] := List.length_eq_zero_iff.1 h0
    exact ⟨none, 0, rfl, ⟨Nat.le_refl _, by simp⟩, fun i x hx => by simp at hx⟩
  · refine ⟨_, _, rfl, ⟨hn, by unfold maxLen at hcm; omega⟩, fun i t ht => ?_⟩
    obtain ⟨av, hav⟩ : ∃ av, avs[i]? = some av := by
      have := (List.getElem?_eq_some_iff.1 ht).1
      exact ⟨avs[i]'(by omega), List.getElem?_eq_getElem _⟩
    have hc := h.toks.cells (g := g) rfl
    simp only [add_z] at hc
    have hk := fun k (hk : k < 7) => tok_cells avs ts i k av t hav ht hk
    refine ⟨g, av, rfl, bk_lt hg, hc (i * 7) _ ?_, hc (i * 7 + 1) _ ?_, hc (i * 7 + 2) _ ?_, hc (i * 7 + 3) _ ?_, hc (i * 7 + 4) _ ?_, hc (i * 7 + 5) _ ?_, hc (i * 7 + 6) _ ?_, .of_own (ha i av t hav ht)⟩
    · rw [Nat.mul_comm i 7]; have := hk 0 (by omega); simpa [TokV.cells] using this
    · rw [Nat.mul_comm i 7]; have := hk 1 (by omega); simpa [TokV.cells] using this
    · rw [Nat.mul_comm i 7]; have := hk 2 (by omega); simpa [TokV.cells] using this
    · rw [Nat.mul_comm i 7]; have := hk 3 (by omega); simpa [TokV.cells] using this
    · rw [Nat.mul_comm i 7]; have := hk 4 (by omega); simpa [TokV.cells] using this
    · rw [Nat.mul_comm i 7]; have := hk 5 (by omega); simpa [TokV.cells] using this
    · rw [Nat.mul_comm i 7]; have := hk 6 (by omega); simpa [TokV.cells] using this
/-- a token by value -/
def TokV.val (av : Value) (t : TokV) : Value := .agg (t.cells av).toArray
@[go_sem] theorem posEq_self (a : P2) : posEq a a = true := by simp [posEq]
set_option maxRecDepth 100000 in
set_option maxHeartbeats 4000000 in
theorem sametok_any (s t : TokV) (av bv : Value) (w : World) (pl : Bool) (ha : ARead w av s.attrs) (hb : ARead w bv t.attrs) (h : s.bare = t.bare)
    (hp : pl = true → s.at_ = t.at_ ∧ s.attrs.map AttrV.at_ = t.attrs.map AttrV.at_) :
    Calls Tryz.prog 20 #[s.val av, t.val bv, .bool pl] w fun e w' => e = .returned (.bool true) ∧ Pur w w' := by
  obtain ⟨sk, sn, sa, st, sp, se⟩ := s
  obtain ⟨tk, tn, ta, tt, tp, te⟩ := t
  unfold TokV.bare at h
  simp only [Prod.mk.injEq] at h
  obtain ⟨rfl, rfl, hat, rfl, rfl⟩ := h
  simp only at hp ha hb
  have hlen : sa.length = ta.length := by simpa using congrArg List.length hat
  obtain ⟨aa, ac, rfl, ⟨hac, ham⟩, HA⟩ := id ha
  obtain ⟨ba, bc, rfl, ⟨hbc, hbm⟩, HB⟩ := id hb
  unfold TokV.val TokV.cells
  simp only [hlen] at ha hac ⊢
  obtain ⟨W0, hW0⟩ : ∃ W0, W0 = (w.alloc (.cells #[.int .i64 (sk : Int), .string ⟨sn.toArray⟩, .slice aa ta.length ac, .string ⟨st.toArray⟩, .int .i64 (sp.1 : Int), .int .i64 (sp.2 : Int), .bool se] 38)).alloc (.cells #[.int .i64 (sk : Int), .string ⟨sn.toArray⟩, .slice ba ta.length bc, .string ⟨st.toArray⟩, .int .i64 (tp.1 : Int), .int .i64 (tp.2 : Int), .bool se] 38) := ⟨_, rfl⟩
  have hP : Pur w W0 := by rw [hW0]; exact ((Pur.refl w).alloc _).alloc _
  have b0 : W0.heap[w.heap.size]? = some (.cells #[.int .i64 (sk : Int), .string ⟨sn.toArray⟩, .slice aa ta.length ac, .string ⟨st.toArray⟩, .int .i64 (sp.1 : Int), .int .i64 (sp.2 : Int), .bool se] 38 (0, 0)) := by rw [hW0]; exact bk_alloc (bk_new w _) _
  have b1 : W0.heap[w.heap.size + 1]? = some (.cells #[.int .i64 (sk : Int), .string ⟨sn.toArray⟩, .slice ba ta.length bc, .string ⟨st.toArray⟩, .int .i64 (tp.1 : Int), .int .i64 (tp.2 : Int), .bool se] 38 (0, 0)) := by
    have hs : (w.alloc (.cells #[.int .i64 (sk : Int), .string ⟨sn.toArray⟩, .slice aa ta.length ac, .string ⟨st.toArray⟩, .int .i64 (sp.1 : Int), .int .i64 (sp.2 : Int), .bool se] 38)).heap.size = w.heap.size + 1 := Array.size_push _
    rw [hW0, ← hs]; exact bk_new _ _
  have BX : ∀ wr, Pur W0 wr → wr.cell? ⟨w.heap.size, 2, none⟩ = some (.slice aa ta.length ac) ∧ wr.cell? ⟨w.heap.size + 1, 2, none⟩ = some (.slice ba ta.length bc) := fun wr hr => ⟨bk_cell (bk_pur b0 hr) 2 _ rfl, bk_cell (bk_pur b1 hr) 2 _ rfl⟩
  have ha' := ha.pur hP
  have hb' := hb.pur hP
  have AT : ∀ n, n < ta.length → ∃ a b : AttrV, a.nm = b.nm ∧ a.val = b.val ∧ (pl = true → a.at_ = b.at_) ∧ sa[n]? = some a ∧ ta[n]? = some b := fun n hn => by
    have hn' : n < sa.length := by omega
    refine ⟨sa[n], ta[n], ?_, ?_, ?_, List.getElem?_eq_getElem _, List.getElem?_eq_getElem _⟩
    · have := congrArg (fun l => l[n]?) hat
      simp only [List.getElem?_map, List.getElem?_eq_getElem hn', List.getElem?_eq_getElem hn, Option.map_some, Option.some.injEq, Prod.mk.injEq] at this
      exact this.1
    · have := congrArg (fun l => l[n]?) hat
      simp only [List.getElem?_map, List.getElem?_eq_getElem hn', List.getElem?_eq_getElem hn, Option.map_some, Option.some.injEq, Prod.mk.injEq] at this
      exact this.2
    · intro e
      have := congrArg (fun l => l[n]?) (hp e).2
      simpa only [List.getElem?_map, List.getElem?_eq_getElem hn', List.getElem?_eq_getElem hn, Option.map_some, Option.some.injEq] using this
  have hlen := Lib.hid hlen
  rcases pl with _ | _
  · skip
    clear hat hp b0 b1 ha hb HA HB
    go_enter Tryz.func20, Tryz.ntmps20
    go_wp2
    rw [← hW0]
    clear hW0
    go_loopw [7] (fun k wr => ∃ n : Nat, n ≤ ta.length ∧ k = .int .i64 n ∧ Pur W0 wr) (fun k _ => ta.length + 1 - (intOf k).toNat)
    case atStart => exact ⟨0, by omega, rfl, Pur.refl W0⟩
    case round =>
      obtain ⟨n, hn, rfl, hpr⟩ := hrel
      obtain ⟨q0, q1⟩ := BX wr hpr
      by_cases hlt : n < ta.length
      · have hlt2 : (n : Int) < ta.length := by omega
        have hac' : (ta.length : Int) ≤ ac := by omega
        have wn : IntKind.i64.wrap ((n : Int) + 1) = (n : Int) + 1 := IntWalk.i64_in _ (by omega)
        obtain ⟨a, b, e1, e2, e3, h1, h2⟩ := AT n hlt
        obtain ⟨aa', ac', e4, -, HA⟩ := ha'.pur hpr
        obtain ⟨ba', bc', e5, -, HB⟩ := hb'.pur hpr
        simp only [Value.slice.injEq] at e4 e5
        obtain ⟨rfl, -, rfl⟩ := e4
        obtain ⟨rfl, -, rfl⟩ := e5
        obtain ⟨ga, rfl, hga, k0, k1, k2, k3⟩ := HA n a h1
        obtain ⟨gb, rfl, hgb, l0, l1, l2, l3⟩ := HB n b h2
        have B : ∀ x : PW wr, x.to.cell? ⟨w.heap.size, 2, none⟩ = some (.slice (some ⟨ga, 0, none⟩) ta.length ac) ∧ x.to.cell? ⟨w.heap.size + 1, 2, none⟩ = some (.slice (some ⟨gb, 0, none⟩) ta.length bc) := fun x => BX x.to (hpr.trans x.pur)
        have B0 := fun x => (B x).1
        have B1 := fun x => (B x).2
        have K0 : ∀ x : PW wr, x.to.cell? ⟨ga, n * 4, none⟩ = _ := fun x => (x.pur.cell hga).trans k0
        have K1 : ∀ x : PW wr, x.to.cell? ⟨ga, n * 4 + 1, none⟩ = _ := fun x => (x.pur.cell hga).trans k1
        have K2 : ∀ x : PW wr, x.to.cell? ⟨ga, n * 4 + 2, none⟩ = _ := fun x => (x.pur.cell hga).trans k2
        have K3 : ∀ x : PW wr, x.to.cell? ⟨ga, n * 4 + 3, none⟩ = _ := fun x => (x.pur.cell hga).trans k3
        have L0 : ∀ x : PW wr, x.to.cell? ⟨gb, n * 4, none⟩ = _ := fun x => (x.pur.cell hgb).trans l0
        have L1 : ∀ x : PW wr, x.to.cell? ⟨gb, n * 4 + 1, none⟩ = _ := fun x => (x.pur.cell hgb).trans l1
        have L2 : ∀ x : PW wr, x.to.cell? ⟨gb, n * 4 + 2, none⟩ = _ := fun x => (x.pur.cell hgb).trans l2
        have L3 : ∀ x : PW wr, x.to.cell? ⟨gb, n * 4 + 3, none⟩ = _ := fun x => (x.pur.cell hgb).trans l3
        rw [e1] at K0
        rw [e2] at K1
        clear k0 k1 k2 k3 l0 l1 l2 l3 HA HB B AT BX ha' hb' h1 h2 e1 e2 e3
        go_wp2
        refine wp_region_pur (by kernel_rfl) (by kernel_rfl) ?_
        repeat (go_big_quiet_step (fail))
        refine wpQuiet_nil ?_
        intro wq hq
        go_wp2
        go_roundw
        case rel => exact ⟨n + 1, by omega, by go_num, hpr.trans hq⟩
        case measure => simp [intOf]; omega
      · obtain rfl : n = ta.length := by omega
        clear AT BX ha' hb'
        go_wp2
        go_ret
        exact ⟨rfl, hP.trans hpr⟩
  · obtain ⟨rfl, -⟩ := hp rfl
    clear hat hp b0 b1 ha hb HA HB
    go_enter Tryz.func20, Tryz.ntmps20
    go_wp2
    rw [← hW0]
    clear hW0
    go_loopw [7] (fun k wr => ∃ n : Nat, n ≤ ta.length ∧ k = .int .i64 n ∧ Pur W0 wr) (fun k _ => ta.length + 1 - (intOf k).toNat)
    case atStart => exact ⟨0, by omega, rfl, Pur.refl W0⟩
    case round =>
      obtain ⟨n, hn, rfl, hpr⟩ := hrel
      obtain ⟨q0, q1⟩ := BX wr hpr
      by_cases hlt : n < ta.length
      · have hlt2 : (n : Int) < ta.length := by omega
        have hac' : (ta.length : Int) ≤ ac := by omega
        have wn : IntKind.i64.wrap ((n : Int) + 1) = (n : Int) + 1 := IntWalk.i64_in _ (by omega)
        obtain ⟨a, b, e1, e2, e3, h1, h2⟩ := AT n hlt
        obtain ⟨aa', ac', e4, -, HA⟩ := ha'.pur hpr
        obtain ⟨ba', bc', e5, -, HB⟩ := hb'.pur hpr
        simp only [Value.slice.injEq] at e4 e5
        obtain ⟨rfl, -, rfl⟩ := e4
        obtain ⟨rfl, -, rfl⟩ := e5
        obtain ⟨ga, rfl, hga, k0, k1, k2, k3⟩ := HA n a h1
        obtain ⟨gb, rfl, hgb, l0, l1, l2, l3⟩ := HB n b h2
        have B : ∀ x : PW wr, x.to.cell? ⟨w.heap.size, 2, none⟩ = some (.slice (some ⟨ga, 0, none⟩) ta.length ac) ∧ x.to.cell? ⟨w.heap.size + 1, 2, none⟩ = some (.slice (some ⟨gb, 0, none⟩) ta.length bc) := fun x => BX x.to (hpr.trans x.pur)
        have B0 := fun x => (B x).1
        have B1 := fun x => (B x).2
        have K0 : ∀ x : PW wr, x.to.cell? ⟨ga, n * 4, none⟩ = _ := fun x => (x.pur.cell hga).trans k0
        have K1 : ∀ x : PW wr, x.to.cell? ⟨ga, n * 4 + 1, none⟩ = _ := fun x => (x.pur.cell hga).trans k1
        have K2 : ∀ x : PW wr, x.to.cell? ⟨ga, n * 4 + 2, none⟩ = _ := fun x => (x.pur.cell hga).trans k2
        have K3 : ∀ x : PW wr, x.to.cell? ⟨ga, n * 4 + 3, none⟩ = _ := fun x => (x.pur.cell hga).trans k3
        have L0 : ∀ x : PW wr, x.to.cell? ⟨gb, n * 4, none⟩ = _ := fun x => (x.pur.cell hgb).trans l0
        have L1 : ∀ x : PW wr, x.to.cell? ⟨gb, n * 4 + 1, none⟩ = _ := fun x => (x.pur.cell hgb).trans l1
        have L2 : ∀ x : PW wr, x.to.cell? ⟨gb, n * 4 + 2, none⟩ = _ := fun x => (x.pur.cell hgb).trans l2
        have L3 : ∀ x : PW wr, x.to.cell? ⟨gb, n * 4 + 3, none⟩ = _ := fun x => (x.pur.cell hgb).trans l3
        rw [e1] at K0
        rw [e2] at K1
        rw [e3 (by trivial)] at K2 K3
        clear k0 k1 k2 k3 l0 l1 l2 l3 HA HB B AT BX ha' hb' h1 h2 e1 e2 e3
        go_wp2
        refine wp_region_pur (by kernel_rfl) (by kernel_rfl) ?_
        repeat (go_big_quiet_step (fail))
        refine wpQuiet_nil ?_
        intro wq hq
        go_wp2
        go_roundw
        case rel => exact ⟨n + 1, by omega, by go_num, hpr.trans hq⟩
        case measure => simp [intOf]; omega
      · obtain rfl : n = ta.length := by omega
        clear AT BX ha' hb'
        go_wp2
        go_ret
        exact ⟨rfl, hP.trans hpr⟩
end Tk
end Go.Proofs.YtaknfofppknloaaGreatDoor
namespace Go.Proofs.YtaknfofppknloaaGreatDoor
open Go Go.RowKit
set_option linter.all false
namespace Tk
/-- a token's places -/
def TokV.spots (t : TokV) : (Nat × Nat) × List (Nat × Nat) := (t.at_, t.attrs.map AttrV.at_)
set_option maxRecDepth 100000 in
set_option maxHeartbeats 4000000 in
theorem same_any (ts us : List TokV) (va vb : Value) (w : World) (pl : Bool) (ha : TRead w va ts) (hb : TRead w vb us) (h : ts.map TokV.bare = us.map TokV.bare)
    (hp : pl = true → ts.map TokV.spots = us.map TokV.spots) :
    Calls Tryz.prog 8 #[va, vb, .bool pl] w fun e w' => e = .returned (.bool true) ∧ Pur w w' := by
  have hlen : ts.length = us.length := by simpa using congrArg List.length h
  obtain ⟨aa, ac, rfl, ⟨hac, ham⟩, HA⟩ := id ha
  obtain ⟨ba, bc, rfl, ⟨hbc, hbm⟩, HB⟩ := id hb
  simp only [hlen] at ha hac ⊢
  have AT : ∀ n, n < us.length → ∃ s t : TokV, s.bare = t.bare ∧ (pl = true → s.at_ = t.at_ ∧ s.attrs.map AttrV.at_ = t.attrs.map AttrV.at_) ∧ ts[n]? = some s ∧ us[n]? = some t := fun n hn => by
    have hn' : n < ts.length := by omega
    refine ⟨ts[n], us[n], ?_, fun e => ?_, List.getElem?_eq_getElem _, List.getElem?_eq_getElem _⟩
    · have := congrArg (fun l => l[n]?) h
      simpa only [List.getElem?_map, List.getElem?_eq_getElem hn', List.getElem?_eq_getElem hn, Option.map_some, Option.some.injEq] using this
    · have := congrArg (fun l => l[n]?) (hp e)
      simp only [List.getElem?_map, List.getElem?_eq_getElem hn', List.getElem?_eq_getElem hn, Option.map_some, Option.some.injEq, TokV.spots, Prod.mk.injEq] at this
      exact this
  have hlen := Lib.hid hlen
  clear h hp HA HB
  go_enter Tryz.func8, Tryz.ntmps8
  go_wp2
  go_loopw [7] (fun k wr => ∃ n : Nat, n ≤ us.length ∧ k = .int .i64 n ∧ Pur w wr) (fun k _ => us.length + 1 - (intOf k).toNat)
  case atStart => exact ⟨0, by omega, rfl, Pur.refl w⟩
  case round =>
    obtain ⟨n, hn, rfl, hpr⟩ := hrel
    by_cases hlt : n < us.length
    · have hlt2 : (n : Int) < us.length := by omega
      have hac' : (us.length : Int) ≤ ac := by omega
      have hbc' : (us.length : Int) ≤ bc := by omega
      have wn : IntKind.i64.wrap ((n : Int) + 1) = (n : Int) + 1 := IntWalk.i64_in _ (by omega)
      obtain ⟨s, t, e1, e2, h1, h2⟩ := AT n hlt
      obtain ⟨aa', ac', e4, -, HA⟩ := ha.pur hpr
      obtain ⟨ba', bc', e5, -, HB⟩ := hb.pur hpr
      simp only [Value.slice.injEq] at e4 e5
      obtain ⟨rfl, -, rfl⟩ := e4
      obtain ⟨rfl, -, rfl⟩ := e5
      obtain ⟨ga, av, rfl, hga, k0, k1, k2, k3, k4, k5, k6, k7⟩ := HA n s h1
      obtain ⟨gb, bv, rfl, hgb, l0, l1, l2, l3, l4, l5, l6, l7⟩ := HB n t h2
      have ST : ∀ x : PW wr, Calls Tryz.prog 20 #[s.val av, t.val bv, .bool pl] x.to fun e w' => e = .returned (.bool true) ∧ Pur x.to w' := fun x => sametok_any s t av bv x.to pl (k7.pur x.pur) (l7.pur x.pur) e1 e2
      unfold TokV.val TokV.cells at ST
      have K0 : ∀ x : PW wr, x.to.cell? ⟨ga, n * 7, none⟩ = _ := fun x => (x.pur.cell hga).trans k0
      have K1 : ∀ x : PW wr, x.to.cell? ⟨ga, n * 7 + 1, none⟩ = _ := fun x => (x.pur.cell hga).trans k1
      have K2 : ∀ x : PW wr, x.to.cell? ⟨ga, n * 7 + 2, none⟩ = _ := fun x => (x.pur.cell hga).trans k2
      have K3 : ∀ x : PW wr, x.to.cell? ⟨ga, n * 7 + 3, none⟩ = _ := fun x => (x.pur.cell hga).trans k3
      have K4 : ∀ x : PW wr, x.to.cell? ⟨ga, n * 7 + 4, none⟩ = _ := fun x => (x.pur.cell hga).trans k4
      have K5 : ∀ x : PW wr, x.to.cell? ⟨ga, n * 7 + 5, none⟩ = _ := fun x => (x.pur.cell hga).trans k5
      have K6 : ∀ x : PW wr, x.to.cell? ⟨ga, n * 7 + 6, none⟩ = _ := fun x => (x.pur.cell hga).trans k6
      have L0 : ∀ x : PW wr, x.to.cell? ⟨gb, n * 7, none⟩ = _ := fun x => (x.pur.cell hgb).trans l0
      have L1 : ∀ x : PW wr, x.to.cell? ⟨gb, n * 7 + 1, none⟩ = _ := fun x => (x.pur.cell hgb).trans l1
      have L2 : ∀ x : PW wr, x.to.cell? ⟨gb, n * 7 + 2, none⟩ = _ := fun x => (x.pur.cell hgb).trans l2
      have L3 : ∀ x : PW wr, x.to.cell? ⟨gb, n * 7 + 3, none⟩ = _ := fun x => (x.pur.cell hgb).trans l3
      have L4 : ∀ x : PW wr, x.to.cell? ⟨gb, n * 7 + 4, none⟩ = _ := fun x => (x.pur.cell hgb).trans l4
      have L5 : ∀ x : PW wr, x.to.cell? ⟨gb, n * 7 + 5, none⟩ = _ := fun x => (x.pur.cell hgb).trans l5
      have L6 : ∀ x : PW wr, x.to.cell? ⟨gb, n * 7 + 6, none⟩ = _ := fun x => (x.pur.cell hgb).trans l6
      obtain ⟨a1, a2, rfl, -, -⟩ := id k7
      obtain ⟨a3, a4, rfl, -, -⟩ := id l7
      clear k0 k1 k2 k3 k4 k5 k6 k7 l0 l1 l2 l3 l4 l5 l6 l7 HA HB AT ha hb h1 h2 e1 e2
      go_wp2
      refine wp_region_pur (by kernel_rfl) (by kernel_rfl) ?_
      repeat (go_big_quiet_step (((go_at_call 20; exact quiet_pur (ST _)))))
      refine wpQuiet_nil ?_
      intro wq hq
      go_wp2
      go_roundw
      case rel => exact ⟨n + 1, by omega, by go_num, hpr.trans hq⟩
      case measure => simp [intOf]; omega
    · obtain rfl : n = us.length := by omega
      clear AT ha hb
      go_wp2
      go_ret
      exact ⟨rfl, hpr⟩
end Tk
end Go.Proofs.YtaknfofppknloaaGreatDoor
namespace Go.Proofs.YtaknfofppknloaaGreatDoor
open Go Go.RowKit
set_option linter.all false
namespace Tk
abbrev Ans := Except ((Nat × Nat) × Nat) (List TokV)
/-- what Tokens has handed back says this -/
def Told (w : World) (r : Ans) (v ev : Value) : Prop := match r with
  | .ok ts => ev = .nilIface ∧ TRead w v ts
  | .error (pos, n) => v = .slice none 0 0 ∧ ∃ b, ev = .iface 46 (.pointer (some ⟨b, 0, none⟩)) ∧
      w.heap[b]? = some (.cells #[.int .i64 (pos.1 : Int), .int .i64 (pos.2 : Int), .iface 32 (.int .i64 (n : Int))] 61 (0, 0))
theorem Told.pur {w w' : World} {r : Ans} {v ev : Value} (h : Told w r v ev) (hp : Pur w w') : Told w' r v ev := by
  rcases r with ⟨pos, n⟩ | ts
  · obtain ⟨h1, b, h2, h3⟩ := h
    exact ⟨h1, b, h2, bk_pur h3 hp⟩
  · exact ⟨h.1, h.2.pur hp⟩
theorem tokens_told (l : List UInt8) (w : World) (hW : TW w) : Calls Tryz.prog 5 #[.string ⟨l.toArray⟩] w fun e w' => ∃ v ev, e = .returned (.tuple #[v, ev]) ∧ Pur w w' ∧ Told w' (whole l) v ev := by
  refine (tokens_any l w hW.tabs hW.fold).mono ?_
  rintro e w' ⟨hp, h⟩
  rcases hr : whole l with ⟨pos, n⟩ | ts
  · rw [hr] at h
    obtain ⟨b, hb, rfl, hc⟩ := h
    exact ⟨_, _, rfl, hp, rfl, b, rfl, hc⟩
  · rw [hr] at h
    obtain ⟨v, avs, rfl, hrow⟩ := h
    exact ⟨_, _, rfl, hp, rfl, hrow.read⟩
def Ans.num (r : Ans) : Nat := match r with | .ok _ => 0 | .error (_, n) => n
def Ans.pos (r : Ans) : Nat × Nat := match r with | .ok _ => (0, 0) | .error (p, _) => p
def Ans.toks (r : Ans) : List TokV := match r with | .ok ts => ts | .error _ => []
theorem tell_told {w : World} {r : Ans} {v ev : Value} (h : Told w r v ev) (hW : TW w) : Calls Tryz.prog 7 #[ev] w fun e w' => e = .returned (.tuple #[.int .i64 (Ans.num r : Int), .agg #[.int .i64 ((Ans.pos r).1 : Int), .int .i64 ((Ans.pos r).2 : Int)]]) ∧ Pur w w' := by
  rcases r with ⟨pos, n⟩ | ts
  · obtain ⟨h1, b, rfl, h3⟩ := h
    exact tell_fault b _ _ _ w hW h3
  · obtain ⟨rfl, h2⟩ := h
    exact tell_nil w
theorem Told.read {w : World} {r : Ans} {v ev : Value} (h : Told w r v ev) : TRead w v (Ans.toks r) := by
  rcases r with ⟨pos, n⟩ | ts
  · obtain ⟨rfl, -⟩ := h
    exact ⟨none, 0, rfl, ⟨Nat.le_refl _, by simp [Ans.toks]⟩, fun i x hx => by simp [Ans.toks] at hx⟩
  · exact h.2
def tA : List UInt8 := [60, 97, 32, 98, 61, 39, 120, 38, 97, 109, 112, 59, 121, 39, 47, 62, 38, 35, 54, 53, 59, 60, 33, 91, 67, 68, 65, 84, 65, 91, 60, 93, 93, 62]
def tB : List UInt8 := [60, 97, 10, 32, 98, 61, 49, 62]
theorem whole_a : whole tA = .ok [⟨1, [97], [⟨[98], [120, 38, 121], (1, 4)⟩], [], (1, 1), true⟩, ⟨3, [], [], [65, 60], (1, 17), false⟩] := by rfl
theorem whole_b : whole tB = .error ((2, 4), 21) := by rfl
set_option maxRecDepth 100000 in
set_option maxHeartbeats 4000000 in
theorem awake_any (w : World) (hW : TW w) : Calls Tryz.prog 4 #[] w fun e w' => e = .returned (.bool true) ∧ Pur w w' := by
  have T1 := fun w hW => tokens_told tA w hW
  have T2 := fun w hW => tokens_told tB w hW
  rw [whole_a] at T1
  rw [whole_b] at T2
  go_enter Tryz.func4, Tryz.ntmps4
  go_wp2_with fail
  refine (T1 _ hW).mono ?_
  rintro e w1 ⟨v1, e1, rfl, p1, h1⟩
  obtain ⟨rfl, h1⟩ := h1
  go_wp2_with fail
  refine (T2 _ (hW.pur p1)).mono ?_
  rintro e w2 ⟨v2, e2, rfl, p2, h2⟩
  go_wp2_with fail
  have TL := tell_told h2 (hW.pur (p1.trans p2))
  simp only [Ans.num, Ans.pos] at TL
  refine TL.mono ?_
  rintro e w3 ⟨rfl, p3⟩
  have hP := p1.trans (p2.trans p3)
  have p5 : Pur w3 (w3.alloc (.cells #[.int .i64 2, .int .i64 4] 29)) := (Pur.refl w3).alloc _
  have b5 := bk_new w3 (.cells #[.int .i64 2, .int .i64 4] 29)
  obtain ⟨a, c, rfl, hc, HA⟩ := (h1.pur (p2.trans p3)).pur p5
  obtain ⟨g, av, rfl, hg, k0, k1, k2, k3, k4, k5, k6, k7⟩ := HA 0 _ rfl
  obtain ⟨g', bv, e9, -, l0, l1, l2, l3, l4, l5, l6, l7⟩ := HA 1 _ rfl
  cases e9
  obtain ⟨a2, c2, rfl, hc2, HB⟩ := k7
  obtain ⟨g2, rfl, hg2, m0, m1, m2, m3⟩ := HB 0 _ rfl
  simp only [Nat.zero_mul, Nat.one_mul, Nat.zero_add] at k0 k1 k2 k3 k4 k5 k6 l0 l1 l2 l3 l4 l5 l6 m0 m1 m2 m3
  have z0 := bk_cell b5 0 _ rfl
  have z1 := bk_cell b5 1 _ rfl
  have hc' : (2 : Int) ≤ c := by have := hc.1; simp at this; omega
  have hc2' : (1 : Int) ≤ c2 := by have := hc2.1; simp at this; omega
  clear T1 T2 TL h1 h2 p1 p2 HA HB
  go_wp2
  go_ret
  exact ⟨rfl, hP.trans p5⟩
end Tk
end Go.Proofs.YtaknfofppknloaaGreatDoor
