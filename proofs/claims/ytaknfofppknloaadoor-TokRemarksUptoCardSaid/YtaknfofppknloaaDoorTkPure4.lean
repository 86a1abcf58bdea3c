/- Layer 2, in plain words: the places of the tokens rise. -/
import Derived.Test.YtaknfofppknloaaDoorTkPure2
namespace Go.Proofs.YtaknfofppknloaaDoor
open Go Go.RowKit
set_option linter.all false
namespace Tk
theorem dropWhile_le (p : Nat → Bool) : ∀ xs : Cs, (xs.dropWhile p).length ≤ xs.length
  | [] => by simp
  | c :: r => by
    rw [List.dropWhile_cons]
    split
    · have := dropWhile_le p r; simp; omega
    · simp
theorem name_len {xs nm r : Cs} (h : name xs = .ok (nm, r)) : nm ≠ [] ∧ r.length < xs.length := by
  unfold name at h
  split at h
  · rename_i hb
    split at h
    · cases h
    · have h1 := Except.ok.inj h
      have h2 := (Prod.mk.inj h1)
      obtain ⟨rfl, rfl⟩ := h2
      cases xs with
      | nil => simp [hd] at hb
      | cons c r =>
        have hg : goesOn c = true := by simp only [hd] at hb; simp [goesOn, hb]
        have := dropWhile_le goesOn r
        simp [List.takeWhile_cons, List.dropWhile_cons, hg]
        omega
  · cases h
theorem takeC_len {c : Nat} {xs r : Cs} {u : Unit} (h : takeC c xs = .ok (u, r)) : r.length < xs.length := by
  unfold takeC at h
  split at h
  · split at h
    · cases h; simp
    · cases h
  · cases h
theorem numGo_len (base : Nat) : ∀ (v : Nat) (xs : Cs) (a : Nat) (q : Cs), numGo base v xs = some (a, q) → q.length < xs.length
  | v, [], a, q, h => by rw [numGo] at h; cases h
  | v, c :: r, a, q, h => by
    rw [numGo] at h
    split at h
    · cases h; simp
    · split at h
      · have := numGo_len base _ r a q h; simp; omega
      · cases h
theorem numOf_len {base : Nat} {xs q : Cs} {a : Nat} (h : numOf base xs = some (a, q)) : q.length < xs.length := by
  unfold numOf at h
  split at h
  · cases h
  · rcases hg : numGo base 0 xs with _ | ⟨v, z⟩
    · rw [hg] at h; cases h
    · rw [hg] at h
      simp only [Option.bind_some] at h
      split at h
      · cases h; exact numGo_len base 0 xs _ _ hg
      · cases h
theorem number_len {xs q : Cs} {a : Nat} (h : number xs = some (a, q)) : q.length < xs.length := by
  unfold number at h
  split at h
  · have := numOf_len h; simp; omega
  · exact numOf_len h
theorem pre_le {t : List Nat} {xs : Cs} (h : pre t xs = true) : t.length ≤ xs.length := by
  unfold pre at h
  have h1 := congrArg List.length (of_decide_eq_true h)
  rw [List.length_take] at h1
  omega
theorem ref_len {xs q : Cs} {a : Nat} (h : reference xs = .ok (a, q)) : q.length < xs.length := by
  unfold reference at h
  have d : ∀ n : Nat, (xs.drop n).length = xs.length - n := fun n => List.length_drop
  split at h
  · rename_i hp; have := pre_le hp; cases h; rw [d]; simp [tLt] at this; omega
  split at h
  · rename_i hp; have := pre_le hp; cases h; rw [d]; simp [tGt] at this; omega
  split at h
  · rename_i hp; have := pre_le hp; cases h; rw [d]; simp [tAmp] at this; omega
  split at h
  · rename_i hp; have := pre_le hp; cases h; rw [d]; simp [tQuot] at this; omega
  split at h
  · rename_i hp; have := pre_le hp; cases h; rw [d]; simp [tApos] at this; omega
  split at h
  · rename_i hp
    have := pre_le hp
    simp only [List.length_cons, List.length_nil] at this
    rcases hn : number (xs.drop 2) with _ | ⟨b, z⟩
    · rw [hn] at h; cases h
    · rw [hn] at h
      cases h
      have := number_len hn
      rw [d] at this
      omega
  · cases h
theorem valGo_len (m : Nat) : ∀ (f : Nat) (xs a q : Cs), valGo m f xs = .ok (a, q) → q.length < xs.length
  | 0, xs, a, q, h => by rw [valGo] at h; cases h
  | f + 1, [], a, q, h => by rw [valGo] at h; cases h
  | f + 1, c :: r, a, q, h => by
    rw [valGo] at h
    split at h
    · cases h; simp
    split at h
    · cases h
    split at h
    · rcases hr : reference (c :: r) with e | ⟨v, z⟩
      · rw [hr] at h; cases h
      · rw [hr, and_ok] at h
        rcases hg : valGo m f z with e | ⟨b, y⟩
        · rw [hg] at h; cases h
        · rw [hg] at h
          cases h
          have := ref_len hr
          have := valGo_len m f z b q hg
          omega
    · rcases hg : valGo m f r with e | ⟨b, y⟩
      · rw [hg] at h; cases h
      · rw [hg] at h
        cases h
        have := valGo_len m f r b q hg
        simp; omega
theorem value_len {xs a q : Cs} (h : value xs = .ok (a, q)) : q.length < xs.length := by
  unfold value at h
  split at h
  · split at h
    · have := valGo_len _ _ _ _ _ h; simp; omega
    · cases h
  · cases h
theorem blanks_len (xs : Cs) : (blanks xs).length ≤ xs.length := dropWhile_le _ _
/-- the places of attributes fall, by how much is left -/
theorem attrsGo_desc : ∀ (f : Nat) (xs : Cs) (l : List Attr) (z : Cs), attrsGo f xs = .ok (l, z) →
    z.length ≤ xs.length ∧ l.Pairwise (fun a b => b.left < a.left) ∧ ∀ a ∈ l, a.left < xs.length ∧ z.length < a.left ∧ a.nm ≠ []
  | 0, xs, l, z, h => by rw [attrsGo] at h; cases h
  | f + 1, xs, l, z, h => by
    have hb := blanks_len xs
    rw [attrsGo] at h
    split at h
    · rename_i hc
      rcases h1 : name (blanks xs) with e | ⟨nm, r1⟩
      · rw [h1] at h; cases h
      rw [h1, and_ok] at h
      rcases h2 : takeC 61 (blanks r1) with e | ⟨u, r2⟩
      · rw [h2] at h; cases h
      rw [h2, and_ok] at h
      rcases h3 : value (blanks r2) with e | ⟨v, r3⟩
      · rw [h3] at h; cases h
      rw [h3, and_ok] at h
      rcases h4 : attrsGo f r3 with e | ⟨l', z'⟩
      · rw [h4] at h; cases h
      rw [h4, and_ok] at h
      cases h
      obtain ⟨i1, i2, i3⟩ := attrsGo_desc f r3 l' z h4
      obtain ⟨n1, n2⟩ := name_len h1
      have n3 := takeC_len h2
      have n4 := value_len h3
      have n5 := blanks_len r1
      have n6 := blanks_len r2
      refine ⟨by omega, List.pairwise_cons.2 ⟨fun a ha => ?_, i2⟩, fun a ha => ?_⟩
      · have := (i3 a ha).1; simp only; omega
      · rcases List.mem_cons.1 ha with rfl | ha
        · exact ⟨hc.1, by simp only; omega, n1⟩
        · obtain ⟨k1, k2, k3⟩ := i3 a ha
          exact ⟨by omega, k2, k3⟩
    · cases h
      exact ⟨hb, .nil, fun a ha => by cases ha⟩
/-- what is right of a token, where so many were left behind it -/
structure TokOk (n : Nat) (t : Tok) : Prop where
  kind : t.kind = 1 ∨ t.kind = 2 ∨ t.kind = 3
  text : t.kind = 3 ↔ t.text ≠ []
  nm : t.kind = 3 ↔ t.nm = []
  bare : t.kind ≠ 1 → t.attrs = [] ∧ t.empty = false
  desc : t.attrs.Pairwise (fun a b => b.left < a.left)
  att : ∀ a ∈ t.attrs, a.left < t.left ∧ a.nm ≠ []
  left : n < t.left
theorem TokOk.mono {n m : Nat} {t : Tok} (h : TokOk n t) (hm : m ≤ n) : TokOk m t := { h with left := by have := h.left; omega }
theorem tag_okT {xs z : Cs} {t : Tok} (h : tag xs = .ok (t, z)) : TokOk z.length t ∧ t.left = xs.length ∧ t.kind ≠ 3 := by
  unfold tag at h
  have d : ∀ n : Nat, (xs.drop n).length = xs.length - n := fun n => List.length_drop
  split at h
  · rcases h1 : name (xs.drop 2) with e | ⟨nm, r1⟩
    · rw [h1] at h; cases h
    rw [h1, and_ok] at h
    rcases h2 : takeC 62 (blanks r1) with e | ⟨u, r2⟩
    · rw [h2] at h; cases h
    rw [h2, and_ok] at h
    cases h
    obtain ⟨n1, n2⟩ := name_len h1
    have n3 := takeC_len h2
    have n4 := blanks_len r1
    rw [d] at n2
    exact ⟨⟨.inr (.inl rfl), by simp, by simp [n1], fun _ => ⟨rfl, rfl⟩, .nil, (fun a ha => by cases ha), by simp only; omega⟩, rfl, by simp⟩
  · rcases h1 : name (xs.drop 1) with e | ⟨nm, r1⟩
    · rw [h1] at h; cases h
    rw [h1, and_ok] at h
    rcases h2 : attrs r1 with e | ⟨l, r2⟩
    · rw [h2] at h; cases h
    rw [h2, and_ok] at h
    obtain ⟨n1, n2⟩ := name_len h1
    rw [d] at n2
    obtain ⟨k1, k2, k3⟩ := attrsGo_desc _ _ _ _ h2
    split at h
    · rcases h3 : takeC 62 (r2.drop 1) with e | ⟨u, r3⟩
      · rw [h3] at h; cases h
      rw [h3, and_ok] at h
      cases h
      have n3 := takeC_len h3
      rw [List.length_drop] at n3
      exact ⟨⟨.inl rfl, by simp, by simp [n1], fun e => absurd rfl e, k2, fun a ha => ⟨by have := (k3 a ha).1; simp only; omega, (k3 a ha).2.2⟩, by simp only; omega⟩, rfl, by simp⟩
    · rcases h3 : takeC 62 r2 with e | ⟨u, r3⟩
      · rw [h3] at h; cases h
      rw [h3, and_ok] at h
      cases h
      have n3 := takeC_len h3
      exact ⟨⟨.inl rfl, by simp, by simp [n1], fun e => absurd rfl e, k2, fun a ha => ⟨by have := (k3 a ha).1; simp only; omega, (k3 a ha).2.2⟩, by simp only; omega⟩, rfl, by simp⟩
theorem until_len (t : List Nat) : ∀ (xs : Cs) (x q : Cs), untilT t xs = .ok (x, q) → q.length ≤ xs.length
  | [], x, q, h => by unfold untilT at h; simp at h
  | c :: r, x, q, h => by
    unfold untilT at h
    split at h
    · simp at h; obtain ⟨-, rfl⟩ := h; simp
    · rcases hr : untilT t r with e | ⟨y, z⟩
      · rw [hr] at h; simp at h
      · rw [hr] at h; simp at h
        obtain ⟨-, rfl⟩ := h
        have := until_len t r y z hr
        simp; omega
theorem instr_len {xs q : Cs} {u : Unit} (h : instr xs = .ok (u, q)) : q.length < xs.length := by
  unfold instr at h
  rcases hn : name (xs.drop 2) with e | ⟨nm, r⟩
  · rw [hn] at h; simp at h
  rw [hn] at h
  have e2 := (name_len hn).2
  rw [List.length_drop] at e2
  simp only [and_ok] at h
  split at h
  · cases h
  split at h
  · cases h; rw [List.length_drop]; omega
  split at h
  · rcases hu : untilT [63, 62] r with e | ⟨y, z⟩
    · rw [hu] at h; cases h
    · rw [hu] at h; cases h
      have := until_len _ _ _ _ hu
      omega
  · cases h
theorem comment_len {xs q : Cs} {u : Unit} (h : comment xs = .ok (u, q)) : q.length < xs.length := by
  unfold comment at h
  rcases hu : untilT [45, 45] (xs.drop 4) with e | ⟨y, z⟩
  · rw [hu] at h; cases h
  rw [hu] at h
  have e1 := until_len _ _ _ _ hu
  rw [List.length_drop] at e1
  simp only [and_ok] at h
  split at h
  · cases h
  · split at h
    · cases h
      simp at e1; omega
    · cases h
theorem chunkGo_len : ∀ (f : Nat) (xs t q : Cs), chunkGo f xs = .ok (t, q) → q.length ≤ xs.length
  | 0, xs, t, q, h => by rw [chunkGo] at h; cases h
  | f + 1, [], t, q, h => by rw [chunkGo] at h; cases h; simp
  | f + 1, c :: r, t, q, h => by
    rw [chunkGo] at h
    split at h
    · cases h; simp
    split at h
    · cases h
    split at h
    · rcases hr : reference (c :: r) with e | ⟨v, y⟩
      · rw [hr] at h; cases h
      · rw [hr] at h
        have := ref_len hr
        simp only [and_ok] at h
        rcases hg : chunkGo f y with e | ⟨a, z⟩
        · rw [hg] at h; cases h
        · rw [hg] at h; cases h
          have := chunkGo_len f y a q hg
          omega
    · rcases hg : chunkGo f r with e | ⟨a, z⟩
      · rw [hg] at h; cases h
      · rw [hg] at h; cases h
        have := chunkGo_len f r a q hg
        simp; omega
theorem chunk_len {c : Nat} {r t q : Cs} (hc : c ≠ 60) (h : chunk (c :: r) = .ok (t, q)) : q.length < (c :: r).length := by
  unfold chunk at h
  rw [chunkGo, if_neg hc] at h
  split at h
  · cases h
  split at h
  · rcases hr : reference (c :: r) with e | ⟨v, y⟩
    · rw [hr] at h; cases h
    · rw [hr] at h
      have := ref_len hr
      simp only [and_ok] at h
      rcases hg : chunkGo (c :: r).length y with e | ⟨a, z⟩
      · rw [hg] at h; cases h
      · rw [hg] at h; cases h
        have := chunkGo_len _ y a q hg
        omega
  · rcases hg : chunkGo (c :: r).length r with e | ⟨a, z⟩
    · rw [hg] at h; cases h
    · rw [hg] at h; cases h
      have := chunkGo_len _ r a q hg
      simp; omega
/-- no text stands beside a text -/
def NoTwo (l : List Tok) : Prop := ∀ (i : Nat) a b, l[i]? = some a → l[i + 1]? = some b → ¬ (a.kind = 3 ∧ b.kind = 3)
theorem NoTwo.snoc {l : List Tok} (h : NoTwo l) (x : Tok) (hx : x.kind ≠ 3 ∨ ∀ a, l.getLast? = some a → a.kind ≠ 3) : NoTwo (l ++ [x]) := by
  intro i a b ha hb
  rcases Nat.lt_trichotomy (i + 1) l.length with h1 | h1 | h1
  · rw [List.getElem?_append_left (by omega)] at ha hb
    exact h i a b ha hb
  · rw [List.getElem?_append_left (by omega)] at ha
    rw [List.getElem?_append_right (by omega), h1, Nat.sub_self] at hb
    simp at hb
    subst hb
    rintro ⟨k1, k2⟩
    rcases hx with hx | hx
    · exact hx k2
    · refine hx a ?_ k1
      rw [List.getLast?_eq_getElem?, show l.length - 1 = i by omega]
      exact ha
  · have := (List.getElem?_eq_some_iff.1 hb).1
    simp at this
    omega
structure Rise (n : Nat) (l : List Tok) : Prop where
  ok : ∀ t ∈ l, TokOk n t
  desc : l.Pairwise (fun a b => b.left < a.left)
  two : NoTwo l
theorem Rise.mono {n m : Nat} {l : List Tok} (h : Rise n l) (hm : m ≤ n) : Rise m l := ⟨fun t ht => (h.ok t ht).mono hm, h.desc, h.two⟩
theorem Rise.snoc {n m : Nat} {l : List Tok} (h : Rise n l) (x : Tok) (hx : TokOk m x) (hm : m ≤ n) (hl : ∀ t ∈ l, x.left < t.left) (h2 : x.kind ≠ 3 ∨ ∀ a, l.getLast? = some a → a.kind ≠ 3) : Rise m (l ++ [x]) := by
  refine ⟨fun t ht => ?_, List.pairwise_append.2 ⟨h.desc, by simp, fun a ha b hb => ?_⟩, h.two.snoc x h2⟩
  · rcases List.mem_append.1 ht with ht | ht
    · exact (h.ok t ht).mono hm
    · simp at ht; subst ht; exact hx
  · simp at hb; subst hb; exact hl a ha
structure Inv (n : Nat) (st : St) : Prop where
  rise : Rise n st.toks
  last : ∀ a, st.toks.getLast? = some a → a.kind ≠ 3
  text : st.text ≠ [] → n < st.began ∧ ∀ t ∈ st.toks, st.began < t.left
theorem Inv.flush {n : Nat} {st : St} (h : Inv n st) : Rise n st.flush.toks ∧ ∀ t ∈ st.flush.toks, n < t.left := by
  unfold St.flush
  split
  · exact ⟨h.rise, fun t ht => (h.rise.ok t ht).left⟩
  · rename_i ht
    obtain ⟨h1, h2⟩ := h.text ht
    have hr := h.rise.snoc ⟨3, [], [], st.text, st.began, false⟩ (m := n) ⟨.inr (.inr rfl), by simp [ht], by simp, fun _ => ⟨rfl, rfl⟩, .nil, (fun a ha => by cases ha), h1⟩ (Nat.le_refl _) h2 (.inr h.last)
    exact ⟨hr, fun t ht => (hr.ok t ht).left⟩
theorem Inv.tag {n m : Nat} {st : St} (h : Inv n st) {t : Tok} (ht : TokOk m t) (hl : t.left = n) (hk : t.kind ≠ 3) (hm : m ≤ n) (b : Nat) : Inv m ⟨st.flush.toks ++ [t], [], b⟩ := by
  obtain ⟨h1, h2⟩ := h.flush
  refine ⟨h1.snoc t ht hm (fun x hx => by rw [hl]; exact h2 x hx) (.inl hk), fun a ha => ?_, fun e => absurd rfl e⟩
  simp at ha; subst ha; exact hk
theorem Inv.mono {n m : Nat} {st : St} (h : Inv n st) (hm : m ≤ n) : Inv m st := ⟨h.rise.mono hm, h.last, fun ht => ⟨by have := (h.text ht).1; omega, (h.text ht).2⟩⟩
theorem Inv.say {n m : Nat} {st : St} (h : Inv n st) (t : Cs) (hm : m < n) : Inv m ((st.begin n).say t) := by
  have e1 : ((st.begin n).say t).toks = st.toks := by unfold St.begin St.say; split <;> rfl
  refine ⟨by rw [e1]; exact h.rise.mono (by omega), by rw [e1]; exact h.last, fun _ => ?_⟩
  rw [e1]
  by_cases hx : st.text = []
  · have e2 : ((st.begin n).say t).began = n := by unfold St.begin St.say; rw [if_pos hx]
    rw [e2]
    exact ⟨hm, fun x hx => (h.rise.ok x hx).left⟩
  · have e2 : ((st.begin n).say t).began = st.began := by unfold St.begin St.say; rw [if_neg hx]
    rw [e2]
    obtain ⟨k1, k2⟩ := h.text hx
    exact ⟨by omega, k2⟩
theorem allGo_rise : ∀ (f : Nat) (xs : Cs) (st : St) (ts : List Tok), Inv xs.length st → allGo f xs st = .ok ts → Rise 0 ts
  | 0, xs, st, ts, _, h => by rw [allGo] at h; cases h
  | f + 1, xs, st, ts, hI, h => by
    rw [allGo] at h
    split at h
    · cases h
      exact hI.flush.1.mono (Nat.zero_le _)
    split at h
    · rcases h1 : instr xs with e | ⟨u, z⟩
      · rw [h1] at h; cases h
      rw [h1, and_ok] at h
      have := instr_len h1
      exact allGo_rise f z st ts (hI.mono (by omega)) h
    split at h
    · rcases h1 : comment xs with e | ⟨u, z⟩
      · rw [h1] at h; cases h
      rw [h1, and_ok] at h
      have := comment_len h1
      exact allGo_rise f z st ts (hI.mono (by omega)) h
    split at h
    · rename_i hp
      rcases h1 : untilT [93, 93, 62] (xs.drop 9) with e | ⟨u, z⟩
      · rw [h1] at h; cases h
      rw [h1, and_ok] at h
      have h2 := until_len _ _ _ _ h1
      have h3 := pre_le hp
      rw [List.length_drop] at h2
      simp [tCdata] at h3
      exact allGo_rise f z _ ts (hI.say u (by omega)) h
    split at h
    · cases h
    split at h
    · cases h
    split at h
    · rcases h1 : tag xs with e | ⟨t, z⟩
      · rw [h1] at h; cases h
      rw [h1, and_ok] at h
      obtain ⟨k1, k2, k3⟩ := tag_okT h1
      have k4 := k1.left
      exact allGo_rise f z _ ts (hI.tag k1 k2 k3 (by omega) _) h
    · rename_i hne _ _ _ _ _ hp
      rcases h1 : chunk xs with e | ⟨t, z⟩
      · rw [h1] at h; cases h
      rw [h1, and_ok] at h
      obtain ⟨c, r, rfl⟩ : ∃ c r, xs = c :: r := by cases xs with
        | nil => exact absurd rfl hne
        | cons c r => exact ⟨c, r, rfl⟩
      have hc : c ≠ 60 := by intro e; subst e; simp [hd] at hp
      have h2 := chunk_len hc h1
      exact allGo_rise f z _ ts (hI.say t (by omega)) h
theorem tokens_rise {cs : Cs} {ts : List Tok} (h : tokens cs = .ok ts) : Rise 0 ts := by
  unfold tokens at h
  rcases h1 : decl cs with e | ⟨u, z⟩
  · rw [h1] at h; cases h
  rw [h1, and_ok] at h
  exact allGo_rise _ z _ ts ⟨⟨(fun t ht => by cases ht), List.Pairwise.nil, (fun i a b ha _ => by simp at ha)⟩, (fun a ha => by simp at ha), fun e => absurd rfl e⟩ h
structure Lo (N : Nat) (st : St) : Prop where
  toks : ∀ t ∈ st.toks, t.left ≤ N
  began : st.text ≠ [] → st.began ≤ N
theorem Lo.flush {N : Nat} {st : St} (h : Lo N st) : ∀ t ∈ st.flush.toks, t.left ≤ N := by
  unfold St.flush
  split
  · exact h.toks
  · rename_i ht
    intro t hm
    rcases List.mem_append.1 hm with hm | hm
    · exact h.toks t hm
    · simp at hm; subst hm; exact h.began ht
theorem Lo.say {N n : Nat} {st : St} (h : Lo N st) (t : Cs) (hn : n ≤ N) : Lo N ((st.begin n).say t) := by
  have e1 : ((st.begin n).say t).toks = st.toks := by unfold St.begin St.say; split <;> rfl
  refine ⟨by rw [e1]; exact h.toks, fun _ => ?_⟩
  by_cases hx : st.text = []
  · have e2 : ((st.begin n).say t).began = n := by unfold St.begin St.say; rw [if_pos hx]
    rw [e2]; exact hn
  · have e2 : ((st.begin n).say t).began = st.began := by unfold St.begin St.say; rw [if_neg hx]
    rw [e2]; exact h.began hx
theorem allGo_lo (N : Nat) : ∀ (f : Nat) (xs : Cs) (st : St) (ts : List Tok), xs.length ≤ N → Lo N st → allGo f xs st = .ok ts → ∀ t ∈ ts, t.left ≤ N
  | 0, xs, st, ts, _, _, h => by rw [allGo] at h; cases h
  | f + 1, xs, st, ts, hN, hI, h => by
    rw [allGo] at h
    split at h
    · cases h
      exact hI.flush
    split at h
    · rcases h1 : instr xs with e | ⟨u, z⟩
      · rw [h1] at h; cases h
      rw [h1, and_ok] at h
      have := instr_len h1
      exact allGo_lo N f z st ts (by omega) hI h
    split at h
    · rcases h1 : comment xs with e | ⟨u, z⟩
      · rw [h1] at h; cases h
      rw [h1, and_ok] at h
      have := comment_len h1
      exact allGo_lo N f z st ts (by omega) hI h
    split at h
    · rcases h1 : untilT [93, 93, 62] (xs.drop 9) with e | ⟨u, z⟩
      · rw [h1] at h; cases h
      rw [h1, and_ok] at h
      have h2 := until_len _ _ _ _ h1
      rw [List.length_drop] at h2
      exact allGo_lo N f z _ ts (by omega) (hI.say u hN) h
    split at h
    · cases h
    split at h
    · cases h
    split at h
    · rcases h1 : tag xs with e | ⟨t, z⟩
      · rw [h1] at h; cases h
      rw [h1, and_ok] at h
      obtain ⟨k1, k2, k3⟩ := tag_okT h1
      have k4 := k1.left
      refine allGo_lo N f z _ ts (by omega) ⟨fun x hx => ?_, fun e => absurd rfl e⟩ h
      rcases List.mem_append.1 hx with hx | hx
      · exact hI.flush x hx
      · simp at hx; subst hx; omega
    · rcases h1 : chunk xs with e | ⟨t, z⟩
      · rw [h1] at h; cases h
      rw [h1, and_ok] at h
      have h2 := chunkGo_len _ _ _ _ h1
      exact allGo_lo N f z _ ts (by omega) (hI.say t hN) h
theorem decl_len {cs z : Cs} {u : Unit} (h : decl cs = .ok (u, z)) : z.length ≤ cs.length := by
  unfold decl at h
  split at h
  · rcases h2 : attrs (cs.drop 5) with e | ⟨l, r⟩
    · rw [h2] at h; cases h
    rw [h2, and_ok] at h
    have h3 := (attrsGo_desc _ _ _ _ h2).1
    rw [List.length_drop] at h3
    split at h
    · cases h; rw [List.length_drop]; omega
    · cases h
  · cases h; exact Nat.le_refl _
theorem tokens_lo {cs : Cs} {ts : List Tok} (h : tokens cs = .ok ts) : ∀ t ∈ ts, t.left ≤ cs.length := by
  unfold tokens at h
  rcases h1 : decl cs with e | ⟨u, z⟩
  · rw [h1] at h; cases h
  rw [h1, and_ok] at h
  exact allGo_lo _ _ z _ ts (decl_len h1) ⟨(fun t ht => by cases ht), fun e => absurd rfl e⟩ h
/-- a place behind another -/
def behind (a b : Nat × Nat) : Prop := b.1 < a.1 ∨ (a.1 = b.1 ∧ b.2 < a.2)
theorem behind_trans {a b c : Nat × Nat} (h : behind a b) (k : behind b c) : behind a c := by unfold behind at *; omega
theorem placeGo_behind : ∀ (b : Cs) (p : Nat × Nat), b ≠ [] → behind (placeGo b p) p
  | [c], p, _ => by
    show behind (if c = 10 then (p.1 + 1, 1) else (p.1, p.2 + 1)) p
    unfold behind
    split <;> simp
  | c :: d :: b, p, _ => by
    have h := placeGo_behind (d :: b) (if c = 10 then (p.1 + 1, 1) else (p.1, p.2 + 1)) (by simp)
    refine behind_trans h ?_
    unfold behind
    split <;> simp
theorem placeGo_append (a b : Cs) : ∀ p, placeGo (a ++ b) p = placeGo b (placeGo a p) := by
  induction a with
  | nil => intro p; rfl
  | cons c a ih => intro p; exact ih _
theorem place_behind (cs : Cs) {i j : Nat} (h : i < j) (hj : j ≤ cs.length) : behind (place cs j) (place cs i) := by
  unfold place
  have e : cs.take j = cs.take i ++ (cs.drop i).take (j - i) := by
    rw [show j = i + (j - i) by omega, List.take_add]
    simp
  rw [e, placeGo_append]
  refine placeGo_behind _ _ fun e2 => ?_
  have := congrArg List.length e2
  rw [List.length_take, List.length_drop] at this
  simp at this
  omega
/-- what is right of a list of tokens, as they are told -/
structure RiseV (ts : List TokV) : Prop where
  kind : ∀ t ∈ ts, t.kind = 1 ∨ t.kind = 2 ∨ t.kind = 3
  text : ∀ t ∈ ts, (t.kind = 3 ↔ t.text ≠ [])
  nm : ∀ t ∈ ts, (t.kind = 3 ↔ t.nm = [])
  bare : ∀ t ∈ ts, t.kind ≠ 1 → t.attrs = [] ∧ t.empty = false
  att0 : ∀ t ∈ ts, ∀ a ∈ t.attrs, a.nm ≠ [] ∧ behind a.at_ t.at_
  att : ∀ t ∈ ts, ∀ (i : Nat) a b, t.attrs[i]? = some a → t.attrs[i + 1]? = some b → behind b.at_ a.at_
  desc : ∀ (i : Nat) a b, ts[i]? = some a → ts[i + 1]? = some b → behind b.at_ a.at_ ∧ ¬ (a.kind = 3 ∧ b.kind = 3)
theorem narrow_nil {cs : Cs} : narrow cs = [] ↔ cs = [] := by
  cases cs with
  | nil => simp [narrow]
  | cons c cs =>
    have := enc_pos c
    have e : narrow (c :: cs) = enc c ++ narrow cs := rfl
    rw [e]
    simp only [List.append_eq_nil_iff, reduceCtorEq, iff_false, not_and]
    intro h
    rw [h] at this
    exact absurd rfl this
theorem pw_get {α : Type} {R : α → α → Prop} {l : List α} (h : l.Pairwise R) (i : Nat) (a b : α) (ha : l[i]? = some a) (hb : l[i + 1]? = some b) : R a b := by
  obtain ⟨h1, rfl⟩ := List.getElem?_eq_some_iff.1 ha
  obtain ⟨h2, rfl⟩ := List.getElem?_eq_some_iff.1 hb
  exact List.pairwise_iff_getElem.1 h i (i + 1) h1 h2 (by omega)
/-- how many are left is at most all -/
def Lefts (n : Nat) (l : List Tok) : Prop := ∀ t ∈ l, t.left ≤ n
theorem rise_fin (cs : Cs) (l : List Tok) (h : Rise 0 l) (hl : Lefts cs.length l) : RiseV (l.map (Tok.fin cs)) := by
  have hm : ∀ t ∈ l.map (Tok.fin cs), ∃ s ∈ l, t = Tok.fin cs s := fun t ht => by
    obtain ⟨s, hs, rfl⟩ := List.mem_map.1 ht; exact ⟨s, hs, rfl⟩
  refine ⟨?_, ?_, ?_, ?_, ?_, ?_, ?_⟩
  · intro t ht; obtain ⟨s, hs, rfl⟩ := hm t ht; exact (h.ok s hs).kind
  · intro t ht; obtain ⟨s, hs, rfl⟩ := hm t ht
    show s.kind = 3 ↔ narrow s.text ≠ []
    rw [(h.ok s hs).text, ne_eq, ne_eq, narrow_nil]
  · intro t ht; obtain ⟨s, hs, rfl⟩ := hm t ht
    show s.kind = 3 ↔ narrow s.nm = []
    rw [(h.ok s hs).nm, narrow_nil]
  · intro t ht hk; obtain ⟨s, hs, rfl⟩ := hm t ht
    obtain ⟨k1, k2⟩ := (h.ok s hs).bare hk
    exact ⟨by show s.attrs.map _ = []; rw [k1]; rfl, k2⟩
  · intro t ht a ha; obtain ⟨s, hs, rfl⟩ := hm t ht
    obtain ⟨b, hb, rfl⟩ := List.mem_map.1 ha
    obtain ⟨k1, k2⟩ := (h.ok s hs).att b hb
    have k3 := hl s hs
    exact ⟨fun e => k2 (narrow_nil.1 e), place_behind cs (by omega) (by omega)⟩
  · intro t ht i a b ha hb; obtain ⟨s, hs, rfl⟩ := hm t ht
    change (s.attrs.map _)[i]? = _ at ha
    change (s.attrs.map _)[i + 1]? = _ at hb
    rw [List.getElem?_map] at ha hb
    obtain ⟨a', ha', rfl⟩ := Option.map_eq_some_iff.1 ha
    obtain ⟨b', hb', rfl⟩ := Option.map_eq_some_iff.1 hb
    have k := pw_get (h.ok s hs).desc i a' b' ha' hb'
    have k1 := ((h.ok s hs).att a' (List.mem_of_getElem? ha')).1
    have k3 := hl s hs
    exact place_behind cs (by omega) (by omega)
  · intro i a b ha hb
    rw [List.getElem?_map] at ha hb
    obtain ⟨a', ha', rfl⟩ := Option.map_eq_some_iff.1 ha
    obtain ⟨b', hb', rfl⟩ := Option.map_eq_some_iff.1 hb
    have k := pw_get h.desc i a' b' ha' hb'
    have k3 := hl a' (List.mem_of_getElem? ha')
    exact ⟨place_behind cs (by omega) (by omega), h.two i a' b' ha' hb'⟩
/-- THE PLACES OF THE TOKENS RISE -/
theorem whole_rise {l : List UInt8} {ts : List TokV} (h : whole l = .ok ts) : RiseV ts := by
  unfold whole at h
  split at h
  · cases h
  split at h
  · cases h
  rcases h1 : tokens (read l).1 with ⟨k, e⟩ | us
  · rw [h1] at h; cases h
  rw [h1] at h
  cases h
  exact rise_fin _ us (tokens_rise h1) (tokens_lo h1)
end Tk
end Go.Proofs.YtaknfofppknloaaDoor
