/- Layer 2, in plain words: remarks ahead of tags change nothing but places. -/
import Derived.Test.YtaknfofppknloaaDoorTkPure5
namespace Go.Proofs.YtaknfofppknloaaDoor
open Go Go.RowKit
set_option linter.all false
namespace Tk
def remC : Cs := [60, 33, 45, 45, 32, 60, 97, 62, 32, 45, 32, 38, 32, 45, 45, 62]
def remP : Cs := [60, 63, 112, 105, 32, 60, 98, 62, 32, 63, 62]
def remA : Cs := remC ++ remP
/-- is this character within a remark or a section? -/
def isIn (i : Bool) (c : Nat) (r : Cs) : Bool := i || (c == 60 && hd (fun d => d == 33 || d == 63) r)
/-- remarks put in ahead of tags -/
def ins : Bool → Cs → Cs
  | _, [] => []
  | i, c :: r => if isIn i c r then c :: ins (!(c == 62)) r else (if c = 60 then remA else []) ++ c :: ins false r
/-- what was looked at on the way -/
def ChkC : Bool → Cs → Cs → Prop
  | _, _, [] => True
  | i, pc, c :: r => if isIn i c r then (c = 62 → ∃ ts, tokens (pc ++ [62]) = .ok ts) ∧ ChkC (!(c == 62)) (pc ++ [c]) r else ChkC false (pc ++ [c]) r
theorem ins_plain : ∀ (p y : Cs), (∀ c ∈ p, c ≠ 60) → ins false (p ++ y) = p ++ ins false y
  | [], y, _ => rfl
  | c :: p, y, h => by
    have hc := h c (by simp)
    have ih := ins_plain p y fun x hx => h x (by simp [hx])
    rw [List.cons_append, ins, if_neg (by simp [isIn, hc]), if_neg hc, ih]
    rfl
theorem chk_plain : ∀ (p y pc : Cs), (∀ c ∈ p, c ≠ 60) → ChkC false pc (p ++ y) → ChkC false (pc ++ p) y
  | [], y, pc, _, k => by simpa using k
  | c :: p, y, pc, h, k => by
    have hc := h c (by simp)
    rw [List.cons_append, ChkC, if_neg (by simp [isIn, hc])] at k
    have := chk_plain p y (pc ++ [c]) (fun x hx => h x (by simp [hx])) k
    simpa using this
theorem ins_in : ∀ (m y : Cs), 62 ∉ m → ins true (m ++ 62 :: y) = m ++ 62 :: ins false y
  | [], y, _ => by
    show ins true (62 :: y) = _
    rw [ins, if_pos (by simp [isIn])]
    rfl
  | c :: m, y, h => by
    have hc : c ≠ 62 := fun e => h (by simp [e])
    have ih := ins_in m y fun hm => h (by simp [hm])
    rw [List.cons_append, ins, if_pos (by simp [isIn]), show (!(c == 62)) = true by simp [hc], ih]
    rfl
theorem chk_in : ∀ (m y pc : Cs), 62 ∉ m → ChkC true pc (m ++ 62 :: y) → (∃ ts, tokens (pc ++ (m ++ [62])) = .ok ts) ∧ ChkC false (pc ++ (m ++ [62])) y
  | [], y, pc, _, k => by
    change ChkC true pc (62 :: y) at k
    rw [ChkC, if_pos (by simp [isIn])] at k
    exact ⟨k.1 rfl, k.2⟩
  | c :: m, y, pc, h, k => by
    have hc : c ≠ 62 := fun e => h (by simp [e])
    rw [List.cons_append, ChkC, if_pos (by simp [isIn]), show (!(c == 62)) = true by simp [hc]] at k
    have := chk_in m y (pc ++ [c]) (fun hm => h (by simp [hm])) k.2
    simpa using this
/-- does a declaration stand here? -/
def fires (cs : Cs) : Bool := pre tXml cs && hd blank (cs.drop 5)
theorem hd_mono {p : Nat → Bool} {a : Cs} (b : Cs) (h : hd p a = true) : hd p (a ++ b) = true := by
  cases a with
  | nil => cases h
  | cons c a => exact h
theorem fires_mono {a : Cs} (b : Cs) (h : fires a = true) : fires (a ++ b) = true := by
  unfold fires at h ⊢
  simp only [Bool.and_eq_true] at h ⊢
  have h5 := pre_le h.1
  refine ⟨pre_app b h.1, ?_⟩
  rw [List.drop_append_of_le_length (by simpa [tXml] using h5)]
  exact hd_mono b h.2
/-- the scanner comes to what stands behind pc, whatever that is -/
def Reach (D : Cs → Prop) (pc xs : Cs) : Prop := ∀ y, (hd (fun c => c == 60) y = true ∨ (hd (fun c => c == 60) xs = false ∧ xs ≠ [])) → D (pc ++ y) → ∃ f st, y.length < f ∧ tokens (pc ++ y) = allGo f y st
theorem Reach.next {D : Cs → Prop} {pc p xs z : Cs} (h : Reach D pc xs) (hx : xs = p ++ z) (hp : hd (fun c => c == 60) p = true)
    (k : ∀ y f st, (p ++ y).length < f → ∃ f' st', y.length < f' ∧ allGo f (p ++ y) st = allGo f' y st') : Reach D (pc ++ p) z := by
  intro y _ hD
  rw [List.append_assoc] at hD ⊢
  obtain ⟨f, st, h1, h2⟩ := h (p ++ y) (.inl (hd_mono y hp)) hD
  obtain ⟨f', st', h3, h4⟩ := k y f st h1
  exact ⟨f', st', h3, h2.trans h4⟩
theorem allGo_chunk (f : Nat) (xs : Cs) (st : St) (hx : xs ≠ []) (h : hd (fun c => c == 60) xs = false) : allGo (f + 1) xs st = (chunk xs).and fun t z => allGo f z ((st.begin xs.length).say t) := by
  cases xs with
  | nil => exact absurd rfl hx
  | cons c r =>
    have hc : c ≠ 60 := by simpa [hd] using h
    rw [allGo, if_neg hx, if_neg (by simp [pre, hc]), if_neg (by simp [pre, hc]), if_neg (by simp [pre, tCdata, hc]), if_neg (by simp [pre, tDoctype, hc]), if_neg (by simp [pre, hc]), if_neg (by simp [h])]
theorem allGo_tag (f : Nat) (r : Cs) (st : St) (h : hd (fun d => d == 33 || d == 63) r = false) : allGo (f + 1) (60 :: r) st = (tag (60 :: r)).and fun t z => allGo f z ⟨st.flush.toks ++ [t], [], st.began⟩ := by
  cases r with
  | nil => rw [allGo, if_neg (by simp), if_neg (by simp [pre]), if_neg (by simp [pre]), if_neg (by simp [pre, tCdata]), if_neg (by simp [pre, tDoctype]), if_neg (by simp [pre]), if_pos (by simp [hd])]
  | cons c r =>
    have h1 : c ≠ 33 ∧ c ≠ 63 := by simpa [hd] using h
    rw [allGo, if_neg (by simp), if_neg (by simp [pre, h1]), if_neg (by simp [pre, h1]), if_neg (by simp [pre, tCdata, h1]), if_neg (by simp [pre, tDoctype, h1]), if_neg (by simp [pre, h1]), if_pos (by simp [hd])]
theorem allGo_instr (f : Nat) (xs : Cs) (st : St) (h : pre [60, 63] xs = true) : allGo (f + 1) xs st = (instr xs).and fun _ z => allGo f z st := by
  rw [allGo, if_neg (by rintro rfl; simp [pre] at h), if_pos h]
theorem pre_bang {xs : Cs} (h : pre [60, 33] xs = true) : pre [60, 63] xs = false := by
  rw [pre_split h]; simp [pre]
theorem pre_bang2 {t : List Nat} {xs : Cs} (h : pre (60 :: 33 :: t) xs = true) : pre [60, 63] xs = false ∧ pre [60, 33] xs = true := by
  rw [pre_split h]; simp [pre]
theorem allGo_comment (f : Nat) (xs : Cs) (st : St) (h : pre [60, 33, 45, 45] xs = true) : allGo (f + 1) xs st = (comment xs).and fun _ z => allGo f z st := by
  rw [allGo, if_neg (by rintro rfl; simp [pre] at h), (pre_bang2 h).1, if_neg (by simp), if_pos h]
theorem pre_cd {xs : Cs} (h : pre tCdata xs = true) : pre [60, 33, 45, 45] xs = false := by
  rw [pre_split h]; simp [pre, tCdata]
theorem allGo_cdata (f : Nat) (xs : Cs) (st : St) (h : pre tCdata xs = true) : allGo (f + 1) xs st = (untilT [93, 93, 62] (xs.drop 9)).and fun t z => allGo f z ((st.begin xs.length).say t) := by
  rw [allGo, if_neg (by rintro rfl; simp [pre, tCdata] at h), (pre_bang2 h).1, if_neg (by simp), pre_cd h, if_neg (by simp), if_pos h]
theorem allGo_other (f : Nat) (xs : Cs) (st : St) (h : pre [60, 33] xs = true) (h1 : pre [60, 33, 45, 45] xs = false) (h2 : pre tCdata xs = false) (ts : List Tok) : allGo (f + 1) xs st ≠ .ok ts := by
  rw [allGo, if_neg (by rintro rfl; simp [pre] at h), pre_bang h, if_neg (by simp), h1, if_neg (by simp), h2, if_neg (by simp)]
  rw [if_pos h]
  split <;> (intro e; cases e)
theorem cdata_ext {xs a q : Cs} (hx : pre tCdata xs = true) (h : untilT [93, 93, 62] (xs.drop 9) = .ok (a, q)) : ∃ p, xs = p ++ q ∧ 62 ∈ p ∧ pre tCdata p = true ∧ ∀ y, untilT [93, 93, 62] ((p ++ y).drop 9) = .ok (a, y) := by
  have hs := pre_split hx
  have h9 : tCdata.length = 9 := rfl
  rw [h9] at hs
  obtain ⟨i1, i2⟩ := until_ext _ (by simp) _ _ _ h
  refine ⟨tCdata ++ (a ++ [93, 93, 62]), ?_, by simp, pre_self _ _, fun y => ?_⟩
  · conv => lhs; rw [hs, i1]
    simp
  · have s0 : (tCdata ++ (a ++ [93, 93, 62]) ++ y).drop 9 = a ++ ([93, 93, 62] ++ y) := by
      rw [List.append_assoc, ← h9, List.drop_left]; simp
    rw [s0]
    exact i2 y
theorem split62 : ∀ (p : Cs), 62 ∈ p → ∃ m w, p = m ++ 62 :: w ∧ 62 ∉ m
  | [], h => by cases h
  | c :: p, h => by
    by_cases hc : c = 62
    · exact ⟨[], p, by rw [hc]; rfl, by simp⟩
    · obtain ⟨m, w, h1, h2⟩ := split62 p (by rcases List.mem_cons.1 h with e | e; exact absurd e.symm hc; exact e)
      exact ⟨c :: m, w, by rw [h1]; rfl, by simp [h2, Ne.symm hc]⟩
theorem only62 {m p z : Cs} (h : m ++ [62] = p ++ z) (hm : 62 ∉ m) (hp : 62 ∈ p) : z = [] ∧ p = m ++ [62] := by
  rcases List.eq_nil_or_concat z with rfl | ⟨z', c, rfl⟩
  · simp at h; exact ⟨rfl, h.symm⟩
  · exfalso
    have h' : m ++ [62] = (p ++ z') ++ [c] := by rw [h]; simp
    have := (List.append_inj' h' rfl).1
    exact hm (by rw [this]; simp [hp])
/-- a part that ends with the first > -/
theorem first62 {α : Type} (t : List Nat) (ht : 62 ∉ t) (F : Cs → R α)
    (hF : ∀ xs a q, pre t xs = true → F xs = .ok (a, q) → ∃ p, xs = p ++ q ∧ 62 ∈ p ∧ pre t p = true ∧ ∀ y, F (p ++ y) = .ok (a, y))
    {xs q : Cs} {a : α} (hx : pre t xs = true) (h : F xs = .ok (a, q))
    (k : ∀ m w, xs = m ++ 62 :: w → 62 ∉ m → pre t (m ++ [62]) = true → ∃ a' q', F (m ++ [62]) = .ok (a', q')) :
    ∃ m, xs = m ++ 62 :: q ∧ 62 ∉ m ∧ pre t (m ++ [62]) = true ∧ ∀ y, F (m ++ 62 :: y) = .ok (a, y) := by
  obtain ⟨p, h1, h2, h3, h4⟩ := hF xs a q hx h
  obtain ⟨m, w, e1, e2⟩ := split62 p h2
  have hpm : pre t (m ++ [62]) = true := by
    have hl : t.length ≤ m.length := by
      rcases Nat.lt_or_ge m.length t.length with g | g
      · exfalso
        have hs := pre_split h3
        rw [e1] at hs
        have g1 : (m ++ 62 :: w)[m.length]? = (t ++ (m ++ 62 :: w).drop t.length)[m.length]? := congrArg (fun l => l[m.length]?) hs
        rw [List.getElem?_append_right (Nat.le_refl _), Nat.sub_self, List.getElem?_append_left g] at g1
        exact ht (List.mem_of_getElem? g1.symm)
      · exact g
    have h5 : pre t (m ++ 62 :: w) = true := by rw [← e1]; exact h3
    rw [pre_same [62] (62 :: w) hl]
    exact h5
  have exs : xs = m ++ 62 :: (w ++ q) := by rw [h1, e1]; simp
  obtain ⟨a', q', g1⟩ := k m (w ++ q) exs e2 hpm
  obtain ⟨p', i1, i2, i3, i4⟩ := hF _ a' q' hpm g1
  obtain ⟨rfl, rfl⟩ := only62 i1 e2 i2
  have g2 := i4 (w ++ q)
  rw [List.append_assoc, List.singleton_append, ← exs, h] at g2
  obtain ⟨rfl, g3⟩ := Prod.mk.inj (Except.ok.inj g2)
  have hw : w = [] := by
    have := congrArg List.length g3
    simp at this
    exact this
  subst hw
  refine ⟨m, by rw [exs]; rfl, e2, hpm, fun y => ?_⟩
  have := i4 y
  rw [List.append_assoc, List.singleton_append] at this
  exact this
/-- two states that are the same but for places -/
structure Like (a b : St) : Prop where
  toks : a.toks.map Tok.bare = b.toks.map Tok.bare
  text : a.text = b.text
theorem Like.flush {a b : St} (h : Like a b) : a.flush.toks.map Tok.bare = b.flush.toks.map Tok.bare := by
  unfold St.flush
  rw [h.text]
  split
  · exact h.toks
  · simp only [List.map_append, h.toks, List.map_cons, List.map_nil]
    rfl
theorem Like.say {a b : St} (h : Like a b) (n m : Nat) (t : Cs) : Like ((a.begin n).say t) ((b.begin m).say t) := by
  have e : ∀ (s : St) (k : Nat), ((s.begin k).say t).toks = s.toks ∧ ((s.begin k).say t).text = s.text ++ t := fun s k => by
    unfold St.begin St.say; split <;> exact ⟨rfl, rfl⟩
  exact ⟨by rw [(e a n).1, (e b m).1, h.toks], by rw [(e a n).2, (e b m).2, h.text]⟩
theorem Like.tag {a b : St} (h : Like a b) {s t : Tok} (e : s.bare = t.bare) (n m : Nat) : Like ⟨a.flush.toks ++ [s], [], n⟩ ⟨b.flush.toks ++ [t], [], m⟩ :=
  ⟨by simp only [List.map_append, h.flush, List.map_cons, List.map_nil, e], rfl⟩
theorem comment_rem (y : Cs) : comment (remC ++ y) = .ok ((), y) := by
  obtain ⟨p, h1, h2, h3, h4⟩ := comment_ext (xs := remC) (q := []) (u := ()) (by decide) (by rfl)
  rw [List.append_nil] at h1
  rw [h1]; exact h4 y
theorem instr_rem (y : Cs) : instr (remP ++ y) = .ok ((), y) := by
  obtain ⟨p, h1, h2, h3, h4⟩ := instr_ext (xs := remP) (q := []) (u := ()) (by decide) (by rfl)
  rw [List.append_nil] at h1
  rw [h1]; exact h4 y
theorem ins_len : ∀ (i : Bool) (xs : Cs), xs.length ≤ (ins i xs).length
  | _, [] => Nat.le_refl _
  | i, c :: r => by
    rw [ins]
    split
    · have := ins_len (!(c == 62)) r; simp; omega
    · have := ins_len false r; simp; omega
set_option maxHeartbeats 1000000 in
/-- REMARKS CHANGE NOTHING, from place to place -/
theorem allGo_ins (D : Cs → Prop) (hD : ∀ a b, D (a ++ b) → D a) : ∀ (f : Nat) (pc xs : Cs) (st st2 : St) (ts : List Tok) (g : Nat), allGo f xs st = .ok ts → ChkC false pc xs → D (pc ++ xs) → Reach D pc xs → Like st st2 → (ins false xs).length < g →
    ∃ ts2, allGo g (ins false xs) st2 = .ok ts2 ∧ ts2.map Tok.bare = ts.map Tok.bare
  | 0, pc, xs, st, st2, ts, g, h, _, _, _, _, _ => by rw [allGo] at h; cases h
  | f + 1, pc, xs, st, st2, ts, g, h, hC, hDx, hR, hL, hg => by
    by_cases hx : xs = []
    · subst hx
      rw [allGo, if_pos rfl] at h
      cases h
      obtain ⟨g, rfl⟩ : ∃ k, g = k + 1 := ⟨g - 1, by omega⟩
      exact ⟨_, by rw [ins, allGo, if_pos rfl], hL.flush.symm⟩
    rcases h60 : hd (fun c => c == 60) xs with _ | _
    · rw [allGo_chunk f xs st hx h60] at h
      rcases h1 : chunk xs with e | ⟨t, z⟩
      · rw [h1] at h; cases h
      rw [h1, and_ok] at h
      obtain ⟨p, i1, i2, i3, i4⟩ := chunkGo_ext _ _ _ _ h1
      have hpne : p ≠ [] := by
        rintro rfl
        rw [List.nil_append] at i1
        subst i1
        rcases i3 with i3 | i3
        · exact hx i3
        · rw [h60] at i3; cases i3
      have hp60 : ∀ y, hd (fun c => c == 60) (p ++ y) = false := fun y => by
        cases p with
        | nil => exact absurd rfl hpne
        | cons c p => simpa [hd] using i2 c (by simp)
      have hC2 : ChkC false (pc ++ p) z := chk_plain p z pc i2 (by rw [← i1]; exact hC)
      have hR2 : Reach D (pc ++ p) z := by
        intro y hy hDy
        have hy' : hd (fun c => c == 60) y = true := by
          rcases hy with hy | ⟨hz, hz2⟩
          · exact hy
          · rcases i3 with i3 | i3
            · exact absurd i3 hz2
            · rw [i3] at hz; cases hz
        rw [List.append_assoc] at hDy ⊢
        obtain ⟨f', st', k1, k2⟩ := hR (p ++ y) (.inr ⟨h60, hx⟩) hDy
        obtain ⟨f', rfl⟩ : ∃ k, f' = k + 1 := ⟨f' - 1, by omega⟩
        have hl := List.length_pos_iff.2 hpne
        rw [List.length_append] at k1
        refine ⟨f', (st'.begin (p ++ y).length).say t, by omega, k2.trans ?_⟩
        rw [allGo_chunk f' (p ++ y) st' (by simp [hpne]) (hp60 y), show chunk (p ++ y) = .ok (t, y) from i4 y _ (.inl hy') (by simp; omega), and_ok]
      have e1 : ins false xs = p ++ ins false z := by rw [i1]; exact ins_plain p z i2
      have hz : ins false z = z ∨ hd (fun c => c == 60) (ins false z) = true := by
        rcases i3 with rfl | i3
        · exact .inl rfl
        · right
          cases z with
          | nil => cases i3
          | cons c z =>
            have : c = 60 := by simpa [hd] using i3
            subst this
            rw [ins]
            split <;> rfl
      rw [e1, List.length_append] at hg
      obtain ⟨g, rfl⟩ : ∃ k, g = k + 1 := ⟨g - 1, by omega⟩
      have hl := List.length_pos_iff.2 hpne
      obtain ⟨ts2, j1, j2⟩ := allGo_ins D hD f (pc ++ p) z _ ((st2.begin (p ++ ins false z).length).say t) ts g h hC2 (by rw [List.append_assoc, ← i1]; exact hDx) hR2 (hL.say _ _ t) (by omega)
      refine ⟨ts2, ?_, j2⟩
      rw [e1, allGo_chunk g _ st2 (by simp [hpne]) (hp60 _), show chunk (p ++ ins false z) = .ok (t, ins false z) from i4 _ _ (hz.symm.imp id id) (by simp; omega), and_ok, j1]
    · obtain ⟨r, rfl⟩ : ∃ r, xs = 60 :: r := by
        cases xs with
        | nil => exact absurd rfl hx
        | cons c r => simp [hd] at h60; exact ⟨r, by rw [h60]⟩
      rcases hm : hd (fun d => d == 33 || d == 63) r with _ | _
      · rw [allGo_tag f r st hm] at h
        rcases h1 : tag (60 :: r) with e | ⟨t, z⟩
        · rw [h1] at h; cases h
        rw [h1, and_ok] at h
        obtain ⟨c, r', i1, c1, c2, c3, i2, i3⟩ := tag_ext h60 h1
        have hmk : ∀ y, hd (fun d => d == 33 || d == 63) (c :: r' ++ y) = false := fun y => by simp [hd, c1, c2]
        have e1 : ins false (60 :: r) = remA ++ (60 :: c :: r' ++ ins false z) := by
          rw [ins, if_neg (by simp [isIn, hm]), if_pos rfl]
          have : r = c :: r' ++ z := by simpa using i1
          rw [this, ins_plain (c :: r') z (fun x hx => by rcases List.mem_cons.1 hx with rfl | hx; exact c3; exact i2 x hx)]
          rfl
        have hC2 : ChkC false (pc ++ (60 :: c :: r')) z := by
          rw [ChkC, if_neg (by simp [isIn, hm])] at hC
          have : r = c :: r' ++ z := by simpa using i1
          rw [this] at hC
          have := chk_plain (c :: r') z _ (fun x hx => by rcases List.mem_cons.1 hx with rfl | hx; exact c3; exact i2 x hx) hC
          simpa using this
        have hR2 : Reach D (pc ++ (60 :: c :: r')) z := hR.next (by rw [i1]) rfl fun y f' st' hf => by
          obtain ⟨f', rfl⟩ : ∃ k, f' = k + 1 := ⟨f' - 1, by omega⟩
          obtain ⟨t', k1, -⟩ := i3 y
          refine ⟨f', ⟨st'.flush.toks ++ [t'], [], st'.began⟩, by simp at hf; omega, ?_⟩
          have := allGo_tag f' (c :: r' ++ y) st' (hmk y)
          rw [show 60 :: (c :: r' ++ y) = 60 :: c :: r' ++ y from rfl, k1, and_ok] at this
          exact this
        rw [e1] at hg
        have hl : remA.length = 27 := rfl
        simp only [List.length_append, List.length_cons, hl] at hg
        obtain ⟨g, rfl⟩ : ∃ k, g = k + 3 := ⟨g - 3, by omega⟩
        obtain ⟨t', k1, k2⟩ := i3 (ins false z)
        obtain ⟨ts2, j1, j2⟩ := allGo_ins D hD f (pc ++ (60 :: c :: r')) z _ ⟨st2.flush.toks ++ [t'], [], st2.began⟩ ts g h hC2 (by rw [List.append_assoc, ← i1]; exact hDx) hR2 (hL.tag k2.symm _ _) (by omega)
        refine ⟨ts2, ?_, j2⟩
        have s1 : remA ++ (60 :: c :: r' ++ ins false z) = remC ++ (remP ++ (60 :: c :: r' ++ ins false z)) := by unfold remA; rw [List.append_assoc]
        rw [e1, s1, allGo_comment (g + 2) _ st2 (pre_app _ (by decide)), comment_rem, and_ok, allGo_instr (g + 1) _ st2 (pre_app _ (by decide)), instr_rem, and_ok]
        have := allGo_tag g (c :: r' ++ ins false z) st2 (hmk _)
        rw [show 60 :: (c :: r' ++ ins false z) = 60 :: c :: r' ++ ins false z from rfl, k1, and_ok] at this
        rw [this, j1]
      · -- a remark, a section
        have hC1 : ChkC true (pc ++ [60]) r := by
          rw [ChkC, if_pos (by simp [isIn, hm])] at hC
          exact hC.2
        have e1 : ins false (60 :: r) = 60 :: ins true r := by
          rw [ins, if_pos (by simp [isIn, hm])]; rfl
        -- what is common to the three
        have common : ∀ (α : Type) (t : List Nat) (F : Cs → R α) (S : St → Nat → α → St), 62 ∉ t → t.head? = some 60 →
            (∀ xs a q, pre t xs = true → F xs = .ok (a, q) → ∃ p, xs = p ++ q ∧ 62 ∈ p ∧ pre t p = true ∧ ∀ y, F (p ++ y) = .ok (a, y)) →
            (∀ f xs st, pre t xs = true → allGo (f + 1) xs st = (F xs).and fun a z => allGo f z (S st xs.length a)) →
            (∀ n m x, Like st st2 → Like (S st n x) (S st2 m x)) →
            pre t (60 :: r) = true → ∃ ts2, allGo g (ins false (60 :: r)) st2 = .ok ts2 ∧ ts2.map Tok.bare = ts.map Tok.bare := by
          intro α t F S ht ht0 hF hA hS hp
          rw [hA f _ st hp] at h
          rcases h1 : F (60 :: r) with e | ⟨a, z⟩
          · rw [h1] at h; cases h
          rw [h1, and_ok] at h
          obtain ⟨m, k1, k2, k3, k4⟩ := first62 t ht F hF hp h1 fun m w e he hpm => by
            cases m with
            | nil => simp at e
            | cons c m =>
              obtain ⟨rfl, er⟩ := List.cons.inj e
              change r = m ++ 62 :: w at er
              have hm' : 62 ∉ m := fun hm => he (by simp [hm])
              rw [er] at hC1
              obtain ⟨⟨us, hus⟩, -⟩ := chk_in m w _ hm' hC1
              have s1 : pc ++ [60] ++ (m ++ [62]) = pc ++ (60 :: m ++ [62]) := by simp
              rw [s1] at hus
              obtain ⟨f', st', g1, g2⟩ := hR (60 :: m ++ [62]) (.inl rfl) (hD _ w (by
                have : pc ++ (60 :: m ++ [62]) ++ w = pc ++ 60 :: r := by rw [er]; simp
                rw [this]; exact hDx))
              rw [hus] at g2
              obtain ⟨f', rfl⟩ : ∃ k, f' = k + 1 := ⟨f' - 1, by omega⟩
              rw [hA f' _ st' hpm] at g2
              rcases h5 : F (60 :: m ++ [62]) with e | ⟨a', q'⟩
              · rw [h5] at g2; cases g2
              · exact ⟨a', q', rfl⟩
          cases m with
          | nil => simp at k1
          | cons c m =>
            obtain ⟨rfl, er⟩ := List.cons.inj k1
            change r = m ++ 62 :: z at er
            have hm' : 62 ∉ m := fun hm => k2 (by simp [hm])
            have e2 : ins false (60 :: r) = 60 :: m ++ 62 :: ins false z := by rw [e1, er, ins_in m z hm']; rfl
            rw [er] at hC1
            obtain ⟨-, hC2⟩ := chk_in m z _ hm' hC1
            have s1 : pc ++ [60] ++ (m ++ [62]) = pc ++ (60 :: m ++ [62]) := by simp
            rw [s1] at hC2
            have hpre : ∀ y, pre t (60 :: m ++ 62 :: y) = true := fun y => by
              have := pre_app y k3
              rw [List.append_assoc, List.singleton_append] at this
              exact this
            have hR2 : Reach D (pc ++ (60 :: m ++ [62])) z := hR.next (p := 60 :: m ++ [62]) (by rw [er]; simp) rfl fun y f' st' hf => by
              obtain ⟨f', rfl⟩ : ∃ k, f' = k + 1 := ⟨f' - 1, by omega⟩
              have s2 : 60 :: m ++ [62] ++ y = 60 :: m ++ 62 :: y := by simp
              rw [s2] at hf ⊢
              refine ⟨f', S st' (60 :: m ++ 62 :: y).length a, by simp at hf; omega, ?_⟩
              rw [hA f' _ st' (hpre y), k4 y, and_ok]
            rw [e2] at hg ⊢
            obtain ⟨g, rfl⟩ : ∃ k, g = k + 1 := ⟨g - 1, by omega⟩
            have hDz : D (pc ++ (60 :: m ++ [62]) ++ z) := by
              have : pc ++ (60 :: m ++ [62]) ++ z = pc ++ 60 :: r := by rw [er]; simp
              rw [this]; exact hDx
            obtain ⟨ts2, j1, j2⟩ := allGo_ins D hD f (pc ++ (60 :: m ++ [62])) z _ (S st2 (60 :: m ++ 62 :: ins false z).length a) ts g h hC2 hDz hR2 (hS _ _ a hL) (by simp at hg; omega)
            exact ⟨ts2, by rw [hA g _ st2 (hpre _), k4, and_ok, j1], j2⟩
        rcases hp1 : pre [60, 63] (60 :: r) with _ | _
        · have hb : pre [60, 33] (60 :: r) = true := by
            cases r with
            | nil => cases hm
            | cons c r =>
              simp only [hd, Bool.or_eq_true, beq_iff_eq] at hm
              rcases hm with rfl | rfl
              · simp [pre]
              · simp [pre] at hp1
          rcases hp2 : pre [60, 33, 45, 45] (60 :: r) with _ | _
          · rcases hp3 : pre tCdata (60 :: r) with _ | _
            · exact absurd h (allGo_other f _ st hb hp2 hp3 ts)
            · exact common Cs tCdata (fun xs => untilT [93, 93, 62] (xs.drop 9)) (fun s n a => (s.begin n).say a) (by decide) rfl (fun xs a q h1 h2 => cdata_ext h1 h2) (fun f xs st h1 => allGo_cdata f xs st h1) (fun n m x hl => hl.say n m x) hp3
          · exact common Unit [60, 33, 45, 45] comment (fun s _ _ => s) (by decide) rfl (fun xs a q h1 h2 => comment_ext h1 h2) (fun f xs st h1 => allGo_comment f xs st h1) (fun n m x hl => hl) hp2
        · exact common Unit [60, 63] instr (fun s _ _ => s) (by decide) rfl (fun xs a q h1 h2 => instr_ext h1 h2) (fun f xs st h1 => allGo_instr f xs st h1) (fun n m x hl => hl) hp1
end Tk
end Go.Proofs.YtaknfofppknloaaDoor
