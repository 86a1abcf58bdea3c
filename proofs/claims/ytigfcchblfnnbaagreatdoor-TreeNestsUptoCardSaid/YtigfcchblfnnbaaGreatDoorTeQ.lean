/- Layer 2, in plain words: a document with an element around it has that element's tags around its tokens. Layer 3, in plain words: places make no difference to a tree. Layer 3, in plain words: an element around a document's root puts its tree one deeper. Layer 3, in plain words: TreeNests. Layer 3, in plain words: TreeNests at the bytes. -/
import Derived.Test.YtigfcchblfnnbaaGreatDoorTeP
import Derived.Test.YtigfcchblfnnbaaGreatDoorTpA
namespace Go.Proofs.YtigfcchblfnnbaaGreatDoor
open Go Go.RowKit
set_option linter.all false
namespace Te
open Tk
abbrev BareT := Nat × Cs × List (Cs × Cs) × Cs × Bool
/-- the same state but for places, with more tokens ahead -/
structure LikeP (P : List BareT) (a b : St) : Prop where
  toks : b.toks.map Tok.bare = P ++ a.toks.map Tok.bare
  text : a.text = b.text
theorem LikeP.flush {P : List BareT} {a b : St} (h : LikeP P a b) : b.flush.toks.map Tok.bare = P ++ a.flush.toks.map Tok.bare := by
  unfold St.flush
  rw [← h.text]
  split
  · exact h.toks
  · simp only [List.map_append, h.toks, List.map_cons, List.map_nil, List.append_assoc]
    rfl
theorem LikeP.say {P : List BareT} {a b : St} (h : LikeP P a b) (n m : Nat) (t : Cs) : LikeP P ((a.begin n).say t) ((b.begin m).say t) := by
  have e : ∀ (s : St) (k : Nat), ((s.begin k).say t).toks = s.toks ∧ ((s.begin k).say t).text = s.text ++ t := fun s k => by
    unfold St.begin St.say; split <;> exact ⟨rfl, rfl⟩
  exact ⟨by rw [(e a n).1, (e b m).1, h.toks], by rw [(e a n).2, (e b m).2, h.text]⟩
theorem LikeP.tag {P : List BareT} {a b : St} (h : LikeP P a b) {s t : Tok} (e : s.bare = t.bare) (n m : Nat) : LikeP P ⟨a.flush.toks ++ [s], [], n⟩ ⟨b.flush.toks ++ [t], [], m⟩ :=
  ⟨by simp only [List.map_append, h.flush, List.map_cons, List.map_nil, e, List.append_assoc], rfl⟩
theorem allGo_suf (P Q : List BareT) (E : Cs) (hE : hd (fun c => c == 60) E = true) (hR : ∀ (g : Nat) (st : St), E.length < g → ∃ ts, allGo g E st = .ok ts ∧ ts.map Tok.bare = st.flush.toks.map Tok.bare ++ Q) :
    ∀ (f : Nat) (xs : Cs) (st st2 : St) (ts : List Tok) (g : Nat), allGo f xs st = .ok ts → LikeP P st st2 → (xs ++ E).length < g →
    ∃ ts2, allGo g (xs ++ E) st2 = .ok ts2 ∧ ts2.map Tok.bare = P ++ (ts.map Tok.bare ++ Q)
  | 0, xs, st, st2, ts, g, h, _, _ => by rw [allGo] at h; cases h
  | f + 1, xs, st, st2, ts, g, h, hL, hg => by
    by_cases hx : xs = []
    · subst hx
      rw [allGo, if_pos rfl] at h
      cases h
      obtain ⟨ts, h1, h2⟩ := hR g st2 hg
      exact ⟨ts, h1, by rw [h2, hL.flush, List.append_assoc]⟩
    have hxl := List.length_pos_iff.2 hx
    obtain ⟨g, rfl⟩ : ∃ k, g = k + 1 := ⟨g - 1, by omega⟩
    rcases h60 : hd (fun c => c == 60) xs with _ | _
    · rw [allGo_chunk f xs st hx h60] at h
      rcases h1 : chunk xs with e | ⟨t, z⟩
      · rw [h1] at h; cases h
      rw [h1, and_ok] at h
      obtain ⟨p, i1, i2, i3, i4⟩ := chunkGo_ext _ _ _ _ h1
      have hpne : p ≠ [] := by
        rintro rfl
        rw [List.nil_append] at i1
        subst i1
        rcases i3 with i3 | i3
        · exact hx i3
        · rw [h60] at i3; cases i3
      have hp60 : ∀ y, hd (fun c => c == 60) (p ++ y) = false := fun y => by
        cases p with
        | nil => exact absurd rfl hpne
        | cons c p => simpa [hd] using i2 c (by simp)
      have hl := List.length_pos_iff.2 hpne
      have hz : hd (fun c => c == 60) (z ++ E) = true := by
        rcases i3 with rfl | i3
        · exact hE
        · exact hd_mono E i3
      obtain ⟨ts2, j1, j2⟩ := allGo_suf P Q E hE hR f z _ ((st2.begin (xs ++ E).length).say t) ts g h (hL.say _ _ t) (by rw [i1] at hg; simp only [List.length_append] at hg ⊢; omega)
      refine ⟨ts2, ?_, j2⟩
      rw [allGo_chunk g _ st2 (by simp [hx]) (by rw [i1, List.append_assoc]; exact hp60 _)]
      have : chunk (xs ++ E) = .ok (t, z ++ E) := by
        rw [i1, List.append_assoc]
        exact i4 _ _ (.inl hz) (by simp; omega)
      rw [this, and_ok, j1]
    · obtain ⟨r, rfl⟩ : ∃ r, xs = 60 :: r := by
        cases xs with
        | nil => exact absurd rfl hx
        | cons c r => simp [hd] at h60; exact ⟨r, by rw [h60]⟩
      rcases hm : hd (fun d => d == 33 || d == 63) r with _ | _
      · rw [allGo_tag f r st hm] at h
        rcases h1 : tag (60 :: r) with e | ⟨t, z⟩
        · rw [h1] at h; cases h
        rw [h1, and_ok] at h
        obtain ⟨c, r', i1, c1, c2, c3, i2, i3⟩ := tag_ext h60 h1
        have hmk : ∀ y, hd (fun d => d == 33 || d == 63) (c :: r' ++ y) = false := fun y => by simp [hd, c1, c2]
        obtain ⟨t', k1, k2⟩ := i3 (z ++ E)
        obtain ⟨ts2, j1, j2⟩ := allGo_suf P Q E hE hR f z _ ⟨st2.flush.toks ++ [t'], [], st2.began⟩ ts g h (hL.tag k2.symm _ _) (by rw [i1] at hg; simp only [List.length_append, List.length_cons] at hg ⊢; omega)
        refine ⟨ts2, ?_, j2⟩
        have := allGo_tag g (c :: r' ++ (z ++ E)) st2 (hmk _)
        rw [show 60 :: (c :: r' ++ (z ++ E)) = 60 :: c :: r' ++ (z ++ E) from rfl, k1, and_ok, j1] at this
        rw [i1, List.append_assoc]
        exact this
      · have common : ∀ (α : Type) (t : List Nat) (F : Cs → R α) (S : St → Nat → α → St),
            (∀ xs a q, pre t xs = true → F xs = .ok (a, q) → ∃ p, xs = p ++ q ∧ 62 ∈ p ∧ pre t p = true ∧ ∀ y, F (p ++ y) = .ok (a, y)) →
            (∀ f xs st, pre t xs = true → allGo (f + 1) xs st = (F xs).and fun a z => allGo f z (S st xs.length a)) →
            (∀ n m x, LikeP P st st2 → LikeP P (S st n x) (S st2 m x)) →
            pre t (60 :: r) = true → ∃ ts2, allGo (g + 1) (60 :: r ++ E) st2 = .ok ts2 ∧ ts2.map Tok.bare = P ++ (ts.map Tok.bare ++ Q) := by
          intro α t F S hF hA hS hp
          rw [hA f _ st hp] at h
          rcases h1 : F (60 :: r) with e | ⟨a, z⟩
          · rw [h1] at h; cases h
          rw [h1, and_ok] at h
          obtain ⟨p, k1, k2, k3, k4⟩ := hF _ _ _ hp h1
          have hpl : 0 < p.length := List.length_pos_iff.2 (by rintro rfl; simp at k2)
          obtain ⟨ts2, j1, j2⟩ := allGo_suf P Q E hE hR f z _ (S st2 (60 :: r ++ E).length a) ts g h (hS _ _ a hL) (by rw [k1] at hg; simp only [List.length_append] at hg ⊢; omega)
          refine ⟨ts2, ?_, j2⟩
          rw [hA g _ st2 (pre_app E hp), k1, List.append_assoc, k4, and_ok]
          rw [k1, List.append_assoc] at j1
          exact j1
        rcases hp1 : pre [60, 63] (60 :: r) with _ | _
        · have hb : pre [60, 33] (60 :: r) = true := by
            cases r with
            | nil => cases hm
            | cons c r =>
              simp only [hd, Bool.or_eq_true, beq_iff_eq] at hm
              rcases hm with rfl | rfl
              · simp [pre]
              · simp [pre] at hp1
          rcases hp2 : pre [60, 33, 45, 45] (60 :: r) with _ | _
          · rcases hp3 : pre tCdata (60 :: r) with _ | _
            · exact absurd h (allGo_other f _ st hb hp2 hp3 ts)
            · exact common Cs tCdata (fun xs => untilT [93, 93, 62] (xs.drop 9)) (fun s n a => (s.begin n).say a) (fun xs a q h1 h2 => cdata_ext h1 h2) (fun f xs st h1 => allGo_cdata f xs st h1) (fun n m x hl => hl.say n m x) hp3
          · exact common Unit [60, 33, 45, 45] comment (fun s _ _ => s) (fun xs a q h1 h2 => comment_ext h1 h2) (fun f xs st h1 => allGo_comment f xs st h1) (fun n m x hl => hl) hp2
        · exact common Unit [60, 63] instr (fun s _ _ => s) (fun xs a q h1 h2 => instr_ext h1 h2) (fun f xs st h1 => allGo_instr f xs st h1) (fun n m x hl => hl) hp1
def wO : Cs := [60, 119, 62]
def wE : Cs := [60, 47, 119, 62]
theorem end_w (g : Nat) (st : St) (hg : wE.length < g) : ∃ ts, allGo g wE st = .ok ts ∧ ts.map Tok.bare = st.flush.toks.map Tok.bare ++ [(2, [119], [], [], false)] := by
  obtain ⟨g, rfl⟩ : ∃ k, g = k + 2 := ⟨g - 2, by simp [wE] at hg; omega⟩
  have h := allGo_tag (g + 1) [47, 119, 62] st (by decide)
  have ht : tag [60, 47, 119, 62] = .ok (⟨2, [119], [], [], 4, false⟩, []) := by rfl
  rw [ht, and_ok] at h
  have h' := h.trans (by rw [allGo, if_pos rfl])
  exact ⟨_, h', by simp [St.flush, Tok.bare]⟩
/-- A DOCUMENT IN AN ELEMENT: its tokens between that element's tags -/
theorem tokens_nest {cs : Cs} {us : List Tok} (h : tokens cs = .ok us) (h0 : hd (fun c => c == 60) cs = true) (h1 : hd (fun d => d == 33 || d == 63) (cs.drop 1) = false) :
    ∃ vs, tokens (wO ++ (cs ++ wE)) = .ok vs ∧ vs.map Tok.bare = [(1, [119], [], [], false)] ++ (us.map Tok.bare ++ [(2, [119], [], [], false)]) := by
  obtain ⟨r, rfl⟩ : ∃ r, cs = 60 :: r := by
    cases cs with
    | nil => simp [hd] at h0
    | cons c r => simp [hd] at h0; exact ⟨r, by rw [h0]⟩
  have hnf : ∀ (c : Nat) (z : Cs), c ≠ 63 → fires (60 :: c :: z) = false := fun c z hc => by simp [fires, pre, Tk.tXml, hc]
  have hd1 : decl (60 :: r) = .ok ((), 60 :: r) := by
    refine decl_no ?_
    cases r with
    | nil => rfl
    | cons c z => exact hnf c z (by simp [hd] at h1; exact h1.2)
  have hd2 : decl (wO ++ (60 :: r ++ wE)) = .ok ((), wO ++ (60 :: r ++ wE)) := decl_no (hnf 119 _ (by decide))
  unfold tokens at h ⊢
  rw [hd1, and_ok] at h
  rw [hd2, and_ok]
  have ht : ∀ y, tag (60 :: 119 :: 62 :: y) = .ok (⟨1, [119], [], [], (60 :: 119 :: 62 :: y).length, false⟩, y) := fun y => by
    unfold tag attrs
    rw [if_neg (by simp [hd])]
    have hn : name (119 :: 62 :: y) = .ok ([119], 62 :: y) := by simp [name, hd, begins, goesOn]
    rw [show (60 :: 119 :: 62 :: y).drop 1 = 119 :: 62 :: y from rfl, hn, and_ok, attrsGo, blanks_id (by simp [hd, Tk.blank]), if_neg (by simp), and_ok, if_neg (by simp [hd]), takeC_self, and_ok]
  obtain ⟨vs, e1, e2⟩ := allGo_suf [(1, [119], [], [], false)] [(2, [119], [], [], false)] wE rfl end_w _ _ _ ⟨[⟨1, [119], [], [], (60 :: 119 :: 62 :: (60 :: r ++ wE)).length, false⟩], [], 0⟩ _ ((wO ++ (60 :: r ++ wE)).length) h ⟨rfl, rfl⟩ (by simp [wO])
  refine ⟨vs, ?_, e2⟩
  have h2 := allGo_tag (wO ++ (60 :: r ++ wE)).length (119 :: 62 :: (60 :: r ++ wE)) ⟨[], [], 0⟩ (by simp [hd])
  rw [ht, and_ok] at h2
  refine Eq.trans h2 ?_
  exact e1
/-- bytes behind bytes -/
theorem RdBy.suf {l : List UInt8} {cs : Cs} (h : RdBy l cs) {E : Cs} (hE : ∀ c ∈ E, allowed c = true) (h10 : by8 (narrow E) 0 ≠ 10) : RdBy (l ++ narrow E) (cs ++ E) := by
  induction h with
  | nil =>
    have := RdBy.app hE .nil
    simpa using this
  | chr c t cs hc _ ih => rw [List.append_assoc]; exact .chr c _ _ hc ih
  | crlf t cs _ ih => exact .crlf _ _ ih
  | cr t cs h _ ih =>
    refine .cr _ _ ?_ ih
    cases t with
    | nil => exact h10
    | cons b t => exact h
/-- THE WHOLE ANSWER -/
theorem whole_nest {l : List UInt8} {ts : List TokV} (h : whole l = .ok ts) (hl : l.length ≤ 3000) (h0 : by8 l 0 = 60) (h1 : by8 l 1 ≠ 33) (h2 : by8 l 1 ≠ 63) :
    ∃ vs, whole ([60, 119, 62] ++ (l ++ [60, 47, 119, 62])) = .ok vs ∧ vs.map TokV.bare = [(1, [119], [], [], false)] ++ (ts.map TokV.bare ++ [(2, [119], [], [], false)]) := by
  have hr0 : (rdA l).2 = 0 := by
    rw [← read_rdA]
    unfold whole at h
    split at h
    · cases h
    · split at h
      · cases h
      · rename_i h3; simpa using h3
  have hrd := RdBy.of l.length l (Nat.le_refl _) hr0
  generalize (rdA l).1 = cs at hrd
  obtain ⟨us, k1, k2⟩ := whole_of_read hrd.read h
  have hne : l ≠ [] := by rintro rfl; simp [by8] at h0
  have c0 : hd (fun c => c == 60) cs = true := by
    have := RdBy.head hrd 60 (by decide) (by decide)
    rw [← this, h0]; rfl
  obtain ⟨r, rfl⟩ : ∃ r, cs = 60 :: r := by
    cases cs with
    | nil => simp [hd] at c0
    | cons c r => simp [hd] at c0; exact ⟨r, by rw [c0]⟩
  obtain ⟨t, rfl, ht⟩ : ∃ t, l = 60 :: t ∧ RdBy t r := by
    cases hrd with
    | chr c t cs hc h => exact ⟨t, by rw [enc_dn (by decide)]; rfl, h⟩
  have c1 : hd (fun d => d == 33 || d == 63) r = false := by
    rw [hd_or]
    rw [← RdBy.head ht 33 (by decide) (by decide), ← RdBy.head ht 63 (by decide) (by decide)]
    have e : by8 (60 :: t) 1 = by8 t 0 := rfl
    rw [e] at h1 h2
    simp [h1, h2]
  obtain ⟨vs, e1, e2⟩ := tokens_nest k1 rfl c1
  have hE : ∀ c ∈ wE, allowed c = true := by decide
  have hO : ∀ c ∈ wO, allowed c = true := by decide
  have n1 : narrow wE = [60, 47, 119, 62] := by rfl
  have n2 : narrow wO = [60, 119, 62] := by rfl
  have hall := (RdBy.app hO (RdBy.suf hrd hE (by rw [n1]; decide))).read
  rw [n1, n2] at hall
  refine ⟨vs.map (Tok.fin (wO ++ (60 :: r ++ wE))), ?_, ?_⟩
  · unfold whole
    rw [if_neg (by simp at hl ⊢; omega), read_rdA, hall]
    simp only [ne_eq, not_true_eq_false, if_false]
    rw [e1]
  · rw [List.map_map, k2, List.map_map]
    have hf : ∀ (X : Cs) (l : List Tok), l.map (TokV.bare ∘ Tok.fin X) = (l.map Tok.bare).map fun x => (x.1, narrow x.2.1, x.2.2.1.map (fun a => (narrow a.1, narrow a.2)), narrow x.2.2.2.1, x.2.2.2.2) := fun X l => by
      rw [List.map_map]; exact List.map_congr_left fun t _ => fin_bare X t
    rw [hf, hf, e2]
    simp only [List.map_append, List.map_cons, List.map_nil]
    rfl
end Te
end Go.Proofs.YtigfcchblfnnbaaGreatDoor
namespace Go.Proofs.YtigfcchblfnnbaaGreatDoor
open Go Go.RowKit
set_option linter.all false
namespace Te
open Tk
def okOf {ε α : Type} (x : Except ε α) : Option α := match x with | .ok a => some a | .error _ => none
def nA (a : AttrV) : AttrV := { a with at_ := (0, 0) }
def nT (t : TokV) : TokV := { t with at_ := (0, 0), attrs := t.attrs.map nA }
def nE (x : ExV) : ExV := { x with at_ := (0, 0) }
def nN (n : NodeV) : NodeV := { n with at_ := (0, 0), ex := n.ex.map nE }
def nO (o : Opn) : Opn := { o with at_ := (0, 0) }
def nB (b : Bd) : Bd := ⟨b.nodes.map nN, b.stack.map nO, b.begun⟩
theorem nA_of {a b : List AttrV} (h : a.map (fun a => (a.nm, a.val)) = b.map (fun a => (a.nm, a.val))) : a.map nA = b.map nA := by
  have e : ∀ l : List AttrV, l.map nA = (l.map (fun a => (a.nm, a.val))).map fun x => (⟨x.1, x.2, (0, 0)⟩ : AttrV) := fun l => by
    rw [List.map_map]; exact List.map_congr_left fun _ _ => rfl
  rw [e, e, h]
theorem nT_of {t s : TokV} (h : t.bare = s.bare) : nT t = nT s := by
  obtain ⟨k, nm, at', tx, p, em⟩ := t
  obtain ⟨k2, nm2, at2, tx2, p2, em2⟩ := s
  simp only [TokV.bare, Prod.mk.injEq] at h
  obtain ⟨rfl, rfl, ha, rfl, rfl⟩ := h
  simp only [nT, TokV.mk.injEq, true_and, and_true]
  exact nA_of ha
theorem nTs_of {l m : List TokV} (h : l.map TokV.bare = m.map TokV.bare) : l.map nT = m.map nT := by
  induction l generalizing m with
  | nil => cases m with
    | nil => rfl
    | cons x m => simp at h
  | cons t l ih =>
    cases m with
    | nil => simp at h
    | cons s m =>
      simp only [List.map_cons, List.cons.injEq] at h
      rw [List.map_cons, List.map_cons, nT_of h.1, ih h.2]
theorem dup_map {α : Type} (same : α → α → Bool) (f : α → α) (hs : ∀ a b, same (f a) (f b) = same a b) : ∀ (l seen : List α), firstDup same (seen.map f) (l.map f) = (firstDup same seen l).map f
  | [], _ => rfl
  | a :: r, seen => by
    have e : (seen.map f).any (fun o => same o (f a)) = seen.any (fun o => same o a) := by
      rw [List.any_map]; exact congrArg (seen.any ·) (funext fun o => hs o a)
    rw [List.map_cons, firstDup, firstDup, e]
    split
    · rfl
    · have := dup_map same f hs r (seen ++ [a])
      rw [List.map_append] at this
      exact this
theorem decls_norm : ∀ (l : List AttrV) (s : Sc), okOf (declsGo (l.map nA) s) = okOf (declsGo l s)
  | [], _ => rfl
  | a :: r, s => by
    rw [List.map_cons, declsGo, declsGo]
    show okOf (if isDecl a.nm = true then (if declOk a.nm a.val = true then declsGo (r.map nA) ((declPfx a.nm, a.val) :: s) else .error (0, 0)) else declsGo (r.map nA) s) = _
    split
    · split
      · exact decls_norm r _
      · rfl
    · exact decls_norm r _
theorem extras_norm (s : Sc) : ∀ l : List AttrV, okOf (extrasGo s (l.map nA)) = (okOf (extrasGo s l)).map (List.map nE)
  | [] => rfl
  | a :: r => by
    have ih := extras_norm s r
    rw [List.map_cons, extrasGo, extrasGo]
    show okOf (if isDecl a.nm = true then extrasGo s (r.map nA) else match expand s a.nm false with
      | .error e => .error ((0, 0), e)
      | .ok x => match extrasGo s (r.map nA) with
        | .error e => .error e
        | .ok l => .ok (⟨x.1, x.2, a.val, (0, 0)⟩ :: l)) = _
    split
    · exact ih
    · rcases expand s a.nm false with e | x
      · rfl
      · dsimp only
        rcases h1 : extrasGo s (r.map nA) with e1 | l1 <;> rcases h2 : extrasGo s r with e2 | l2 <;> rw [h1, h2] at ih <;> simp [okOf] at ih ⊢
        exact ⟨rfl, ih⟩
theorem exLt_norm (a b : ExV) : exLt (nE a) (nE b) = exLt a b := rfl
theorem put_norm (x : ExV) : ∀ l : List ExV, put (nE x) (l.map nE) = (put x l).map nE
  | [] => rfl
  | y :: r => by
    rw [List.map_cons, put, put, exLt_norm]
    split
    · rfl
    · rw [List.map_cons, put_norm x r]
theorem sort_norm (l : List ExV) : sortEx (l.map nE) = (sortEx l).map nE := by
  have : ∀ (l acc : List ExV), (l.map nE).foldl (fun acc x => put x acc) (acc.map nE) = (l.foldl (fun acc x => put x acc) acc).map nE := by
    intro l
    induction l with
    | nil => intro acc; rfl
    | cons x l ih => intro acc; rw [List.map_cons, List.foldl_cons, List.foldl_cons, put_norm, ih]
  exact this l []
theorem tag_norm (t : TokV) (s : Sc) : okOf (tagOf (nT t) s) = (okOf (tagOf t s)).map fun x => (x.1, x.2.1, x.2.2.map nE) := by
  unfold tagOf
  have e1 := dup_map sameName nA (fun _ _ => rfl) t.attrs []
  have e2 := decls_norm t.attrs s
  show okOf (match firstDup sameName [] (t.attrs.map nA) with
    | some a => .error (a.at_, 31)
    | none => match declsGo (t.attrs.map nA) s with
      | .error p => .error (p, 32)
      | .ok s' => match expand s' t.nm true with
        | .error e => .error ((0, 0), e)
        | .ok x => match extrasGo s' (t.attrs.map nA) with
          | .error e => .error e
          | .ok l => match firstDup sameEx [] l with
            | some y => .error (y.at_, 31)
            | none => .ok (s', x, sortEx l)) = _
  rw [List.map_nil] at e1
  rw [e1]
  rcases firstDup sameName [] t.attrs with _ | a
  · dsimp only [Option.map_none]
    rcases h1 : declsGo (t.attrs.map nA) s with p | s1 <;> rcases h2 : declsGo t.attrs s with p2 | s2 <;> rw [h1, h2] at e2 <;> simp [okOf] at e2
    · rfl
    · subst e2
      dsimp only
      rcases expand s1 t.nm true with e | x
      · rfl
      · dsimp only
        have e3 := extras_norm s1 t.attrs
        rcases h3 : extrasGo s1 (t.attrs.map nA) with p3 | l3 <;> rcases h4 : extrasGo s1 t.attrs with p4 | l4 <;> rw [h3, h4] at e3 <;> simp [okOf] at e3
        · rfl
        · subst e3
          dsimp only
          have e4 := dup_map sameEx nE (fun _ _ => rfl) l4 []
          rw [List.map_nil] at e4
          rw [e4]
          rcases firstDup sameEx [] l4 with _ | y
          · dsimp only [Option.map_none]
            rw [sort_norm]; rfl
          · rfl
  · rfl
theorem last_map {α β : Type} (f : α → β) (l : List α) : (l.map f).getLast? = l.getLast?.map f := by simp
theorem parent_norm (b : Bd) : (nB b).parent = b.parent := by
  unfold Bd.parent
  show (match (b.stack.map nO).getLast? with | some o => (o.node : Int) | none => -1) = _
  rw [last_map]
  cases b.stack.getLast? <;> rfl
theorem scope_norm (b : Bd) : (nB b).scope = b.scope := by
  unfold Bd.scope
  show (match (b.stack.map nO).getLast? with | some o => o.sc | none => [(Te.tXml, xmlS)]) = _
  rw [last_map]
  cases b.stack.getLast? <;> rfl
theorem start_norm (b : Bd) (t : TokV) : okOf (start (nB b) (nT t)) = (okOf (start b t)).map nB := by
  unfold start
  have h1 : ((nB b).stack = [] ∧ (nB b).begun = true) ↔ (b.stack = [] ∧ b.begun = true) := by simp [nB]
  have h2 : (nB b).stack.length = b.stack.length := by simp [nB]
  have h3 : (nB b).nodes.length = b.nodes.length := by simp [nB]
  rw [h2, h3, scope_norm, parent_norm]
  simp only [h1]
  split
  · rfl
  split
  · rfl
  split
  · rfl
  have e := tag_norm t b.scope
  rcases h4 : tagOf (nT t) b.scope with p | ⟨s1, x1, l1⟩ <;> rcases h5 : tagOf t b.scope with p2 | ⟨s2, x2, l2⟩ <;> rw [h4, h5] at e <;> simp [okOf] at e
  · rfl
  · obtain ⟨rfl, rfl, rfl⟩ := e
    dsimp only
    show some _ = some _
    congr 1
    unfold nB
    dsimp only
    have : (nT t).empty = t.empty := rfl
    rw [this]
    cases t.empty <;> simp [nN, nO, nT]
theorem token_norm (b : Bd) (t : TokV) : okOf (token (nB b) (nT t)) = (okOf (token b t)).map nB := by
  unfold token
  have hk : (nT t).kind = t.kind := rfl
  have hn : (nT t).nm = t.nm := rfl
  have ht : (nT t).text = t.text := rfl
  have h3 : (nB b).nodes.length = b.nodes.length := by simp [nB]
  have h4 : (nB b).stack = [] ↔ b.stack = [] := by simp [nB]
  rw [hk, hn, ht, h3, parent_norm]
  split
  · exact start_norm b t
  split
  · show okOf (match (b.stack.map nO).getLast? with | some o => if o.nm = t.nm then Except.ok { nB b with stack := (b.stack.map nO).dropLast } else .error ((nT t).at_, 30) | none => .error ((nT t).at_, 30)) = _
    rw [last_map]
    cases b.stack.getLast? with
    | none => rfl
    | some o =>
      dsimp only [Option.map_some]
      show okOf (if o.nm = t.nm then _ else _) = _
      split
      · show some _ = some _
        simp [nB]
      · rfl
  simp only [h4]
  split
  · split <;> rfl
  split
  · rfl
  · show some _ = some _
    simp [nB, nN, nT]
theorem tokens_norm : ∀ (ts : List TokV) (b : Bd), okOf (tokensGo (ts.map nT) (nB b)) = (okOf (tokensGo ts b)).map nB
  | [], _ => rfl
  | t :: r, b => by
    have e := token_norm b t
    rw [List.map_cons, tokensGo, tokensGo]
    rcases h1 : token (nB b) (nT t) with p | b1 <;> rcases h2 : token b t with p2 | b2 <;> rw [h1, h2] at e <;> simp [okOf] at e
    · rfl
    · subst e
      exact tokens_norm r b2
/-- PLACES MAKE NO DIFFERENCE -/
theorem build_norm (ts : List TokV) : okOf (build (ts.map nT)) = (okOf (build ts)).map (List.map nN) := by
  unfold build
  have e := tokens_norm ts ⟨[], [], false⟩
  have h0 : nB ⟨[], [], false⟩ = ⟨[], [], false⟩ := rfl
  rw [h0] at e
  rcases h1 : tokensGo (ts.map nT) ⟨[], [], false⟩ with p | b1 <;> rcases h2 : tokensGo ts ⟨[], [], false⟩ with p2 | b2 <;> rw [h1, h2] at e <;> simp [okOf] at e
  · rfl
  · subst e
    dsimp only
    show okOf (match (b2.stack.map nO).getLast? with | some o => .error (o.at_, 30) | none => if b2.begun = true then .ok (b2.nodes.map nN) else .error ((1, 1), 33)) = _
    rw [last_map]
    cases b2.stack.getLast? with
    | none =>
      dsimp only [Option.map_none]
      split <;> rfl
    | some o => rfl
theorem build_like {ts us : List TokV} {ns : List NodeV} (h : build ts = .ok ns) (e : ts.map TokV.bare = us.map TokV.bare) : ∃ ms, build us = .ok ms ∧ ms.map nN = ns.map nN := by
  have h1 := build_norm ts
  have h2 := build_norm us
  rw [← nTs_of e, h1, h] at h2
  rcases h3 : build us with p | ms
  · rw [h3] at h2; simp [okOf] at h2
  · rw [h3] at h2
    simp [okOf] at h2
    exact ⟨ms, rfl, h2.symm⟩
end Te
end Go.Proofs.YtigfcchblfnnbaaGreatDoor
namespace Go.Proofs.YtigfcchblfnnbaaGreatDoor
open Go Go.RowKit
set_option linter.all false
namespace Te
open Tk
/-! ### the reference's depth -/
def parAt (ns : List NodeV) (k : Int) : Int := match ns[k.toNat]? with | some n => n.par | none => -1
def climb (ns : List NodeV) (p : Int) : Nat → Int → Int
  | 0, k => k
  | f + 1, k => if 0 ≤ k ∧ k ≠ p then climb ns p f (parAt ns k) else k
def count (ns : List NodeV) : Nat → Int → Nat
  | 0, _ => 0
  | f + 1, k => if 0 ≤ k then count ns f (parAt ns k) + 1 else 0
def loAt (ns : List NodeV) (k : Int) : Bs := match ns[k.toNat]? with | some n => n.lo | none => []
def depthR (ns : List NodeV) (i : Nat) : Nat :=
  if i = 0 then (if parAt ns 0 = -1 then 1 else 0)
  else if climb ns (parAt ns i) (i + 1) ((i : Int) - 1) < 0 ∨ loAt ns (parAt ns i) = [] then 0
  else 1 + count ns (i + 1) (climb ns (parAt ns i) (i + 1) ((i : Int) - 1))
/-- the open elements, the innermost first, stand in one another -/
def Chain (ns : List NodeV) : List Opn → Prop
  | [] => True
  | o :: r => (∃ n, ns[o.node]? = some n ∧ n.lo ≠ [] ∧ n.par = (match r with | [] => -1 | q :: _ => (q.node : Int)) ∧ (match r with | [] => True | q :: _ => q.node < o.node)) ∧ Chain ns r
theorem Chain.mono {ns e : List NodeV} : ∀ {r : List Opn}, Chain ns r → Chain (ns ++ e) r
  | [], _ => trivial
  | o :: r, ⟨⟨n, h1, h2⟩, h3⟩ => ⟨⟨n, by rw [List.getElem?_append_left (List.getElem?_eq_some_iff.1 h1).1]; exact h1, h2⟩, h3.mono⟩
theorem Chain.lt {ns : List NodeV} {o : Opn} {r : List Opn} (h : Chain ns (o :: r)) : o.node < ns.length := by
  obtain ⟨⟨n, h1, _⟩, _⟩ := h
  exact (List.getElem?_eq_some_iff.1 h1).1
theorem Chain.count {ns : List NodeV} : ∀ {r : List Opn} {o : Opn} {f : Nat}, Chain ns (o :: r) → o.node < f → Te.count ns f o.node = r.length + 1
  | [], o, f, ⟨⟨n, h1, h2, h3, h4⟩, _⟩, hf => by
    obtain ⟨f, rfl⟩ : ∃ k, f = k + 1 := ⟨f - 1, by omega⟩
    have hp : parAt ns (o.node : Int) = -1 := by simp only [parAt, Int.toNat_natCast, h1]; exact h3
    rw [Te.count, if_pos (by omega), hp]
    cases f <;> simp [Te.count]
  | q :: r, o, f, ⟨⟨n, h1, h2, h3, h4⟩, h5⟩, hf => by
    obtain ⟨f, rfl⟩ : ∃ k, f = k + 1 := ⟨f - 1, by omega⟩
    have hp : parAt ns (o.node : Int) = q.node := by simp only [parAt, Int.toNat_natCast, h1]; exact h3
    have h4' : q.node < o.node := h4
    rw [Te.count, if_pos (by omega), hp, Chain.count h5 (by omega), List.length_cons]
/-- climbing by parents -/
inductive Anc (ns : List NodeV) (p : Int) : Int → Prop
  | refl : Anc ns p p
  | step (k : Int) : p < k → k < ns.length → parAt ns k < k → Anc ns p (parAt ns k) → Anc ns p k
theorem parAt_app (ns e : List NodeV) (k : Int) (h0 : 0 ≤ k) (h : k < ns.length) : parAt (ns ++ e) k = parAt ns k := by
  unfold parAt
  rw [List.getElem?_append_left (by omega)]
theorem Anc.mono {ns e : List NodeV} {p k : Int} (hp : 0 ≤ p) (h : Anc ns p k) : Anc (ns ++ e) p k := by
  induction h with
  | refl => exact .refl
  | step k h1 h2 h3 _ ih =>
    have := parAt_app ns e k (by omega) h2
    exact .step k h1 (by simp; omega) (by rw [this]; exact h3) (by rw [this]; exact ih)
theorem Anc.climb {ns : List NodeV} {p k : Int} (hp : 0 ≤ p) (h : Anc ns p k) : ∀ f : Nat, k < f → Te.climb ns p f k = p := by
  induction h with
  | refl =>
    intro f hf
    cases f with
    | zero => rfl
    | succ f => rw [Te.climb, if_neg (by simp)]
  | step k h1 h2 h3 _ ih =>
    intro f hf
    obtain ⟨f, rfl⟩ : ∃ g, f = g + 1 := ⟨f - 1, by omega⟩
    rw [Te.climb, if_pos (by omega), ih f (by omega)]
theorem Anc.trans {ns : List NodeV} {p q k : Int} (hqp : p < q) (hq : q < ns.length) (h3 : parAt ns q = p) (h : Anc ns q k) : Anc ns p k := by
  induction h with
  | refl => exact .step q hqp hq (by omega) (by rw [h3]; exact .refl)
  | step k h1 h2 h4 _ ih => exact .step k (by omega) h2 h4 ih
structure Inv (b : Bd) : Prop where
  par : ∀ (i : Nat) n, b.nodes[i]? = some n → -1 ≤ n.par ∧ n.par < i
  chain : Chain b.nodes b.stack.reverse
  last : ∀ o, b.stack.getLast? = some o → Anc b.nodes o.node ((b.nodes.length : Int) - 1)
  beg : b.nodes ≠ [] → b.begun = true
theorem Inv.init : Inv ⟨[], [], false⟩ := ⟨by simp, trivial, by simp, by simp⟩
theorem last_rev {α : Type} (l : List α) : l.reverse.head? = l.getLast? := by simp
theorem Inv.top {b : Bd} (h : Inv b) {o : Opn} (ho : b.stack.getLast? = some o) : ∃ r, b.stack.reverse = o :: r ∧ Chain b.nodes (o :: r) := by
  rw [← last_rev] at ho
  have hc := h.chain
  cases hr : b.stack.reverse with
  | nil => rw [hr] at ho; simp at ho
  | cons x r => rw [hr] at ho hc; simp at ho; subst ho; exact ⟨r, rfl, hc⟩
theorem Inv.parent {b : Bd} (h : Inv b) : -1 ≤ b.parent ∧ b.parent < b.nodes.length := by
  unfold Bd.parent
  cases ho : b.stack.getLast? with
  | none => dsimp only; omega
  | some o =>
    obtain ⟨r, -, hc⟩ := h.top ho
    have := hc.lt
    dsimp only; omega
/-- one more node -/
theorem Inv.add {b : Bd} (h : Inv b) (n : NodeV) (hn : n.par = b.parent) (g : Bool) (hg : g = true) : Inv ⟨b.nodes ++ [n], b.stack, g⟩ := by
  have hp := h.parent
  refine ⟨fun i m hm => ?_, h.chain.mono, fun o ho => ?_, fun _ => hg⟩
  · rcases Nat.lt_or_ge i b.nodes.length with hi | hi
    · exact h.par i m (by rwa [List.getElem?_append_left hi] at hm)
    · have : i = b.nodes.length := by have := (List.getElem?_eq_some_iff.1 hm).1; simp at this; omega
      subst this
      simp at hm
      subst hm
      rw [hn]; exact hp
  · have ho' : b.stack.getLast? = some o := ho
    obtain ⟨r, -, hc⟩ := h.top ho'
    have hlt := hc.lt
    have e : ((b.nodes ++ [n]).length : Int) - 1 = b.nodes.length := by simp
    show Anc (b.nodes ++ [n]) o.node (((b.nodes ++ [n]).length : Int) - 1)
    rw [e]
    have hpar : parAt (b.nodes ++ [n]) b.nodes.length = o.node := by
      simp only [parAt, Int.toNat_natCast, List.getElem?_concat_length]
      rw [hn]; simp [Bd.parent, ho']
    exact .step _ (by omega) (by simp; omega) (by rw [hpar]; omega) (by rw [hpar]; exact .refl)
/-- one more open element: the node told last -/
theorem Inv.push {b : Bd} (h : Inv b) (n : NodeV) (hn : n.par = b.parent) (hl : n.lo ≠ []) (nm : Bs) (s : Sc) (p : Ps) : Inv ⟨b.nodes ++ [n], b.stack ++ [⟨b.nodes.length, nm, s, p⟩], true⟩ := by
  have h1 := h.add n hn true rfl
  refine ⟨h1.par, ?_, fun o ho => ?_, fun _ => rfl⟩
  · show Chain (b.nodes ++ [n]) (b.stack ++ [_]).reverse
    rw [List.reverse_concat]
    refine ⟨⟨n, by simp, hl, ?_⟩, h1.chain⟩
    rw [hn]
    cases hr : b.stack.reverse with
    | nil =>
      have : b.stack = [] := by simpa using hr
      simp [Bd.parent, this]
    | cons o r =>
      have ho : b.stack.getLast? = some o := by rw [← last_rev, hr]; rfl
      have hc := h.chain
      rw [hr] at hc
      exact ⟨by simp [Bd.parent, ho], hc.lt⟩
  · have : o = ⟨b.nodes.length, nm, s, p⟩ := by simpa using ho.symm
    subst this
    show Anc _ _ (((b.nodes ++ [n]).length : Int) - 1)
    have e : ((b.nodes ++ [n]).length : Int) - 1 = b.nodes.length := by simp
    rw [e]
    exact .refl
/-- the innermost one ends -/
theorem Inv.pop {b : Bd} (h : Inv b) : Inv ⟨b.nodes, b.stack.dropLast, b.begun⟩ := by
  cases ho : b.stack.getLast? with
  | none =>
    have : b.stack = [] := by simpa using ho
    have e : b = ⟨b.nodes, [], b.begun⟩ := by cases b; simp at this; rw [this]
    rw [this]; rw [e] at h; exact h
  | some o =>
    obtain ⟨r, hr, hc⟩ := h.top ho
    have hd : b.stack.dropLast.reverse = r := by
      have : b.stack = r.reverse ++ [o] := by rw [← List.reverse_reverse b.stack, hr, List.reverse_cons]
      rw [this]; simp
    obtain ⟨⟨n, k1, k2, k3, k4⟩, k5⟩ := hc
    refine ⟨h.par, by show Chain b.nodes b.stack.dropLast.reverse; rw [hd]; exact k5, fun q hq => ?_, h.beg⟩
    have hq' : b.stack.dropLast.getLast? = some q := hq
    rw [← last_rev, hd] at hq'
    cases r with
    | nil => simp at hq'
    | cons q' r =>
      simp at hq'
      subst hq'
      have hpar : parAt b.nodes o.node = q'.node := by simp only [parAt, Int.toNat_natCast, k1]; exact k3
      have k4' : q'.node < o.node := k4
      have := (List.getElem?_eq_some_iff.1 k1).1
      exact Anc.trans (ns := b.nodes) (by omega) (by omega) hpar (h.last o ho)
/-- how deep the next node stands -/
theorem Inv.depth {b : Bd} (h : Inv b) (n : NodeV) (hn : n.par = b.parent) (hb : b.stack = [] → b.begun = false) (e : List NodeV) : depthR (b.nodes ++ [n] ++ e) b.nodes.length = b.stack.length + 1 := by
  have hat : parAt (b.nodes ++ [n] ++ e) b.nodes.length = b.parent := by
    rw [parAt_app _ _ _ (by omega) (by simp; omega)]
    simp only [parAt, Int.toNat_natCast, List.getElem?_concat_length]
    exact hn
  cases ho : b.stack.getLast? with
  | none =>
    have hs : b.stack = [] := by simpa using ho
    have hz : b.nodes = [] := by
      cases hz : b.nodes with
      | nil => rfl
      | cons x l => have := h.beg (by rw [hz]; simp); rw [hb hs] at this; cases this
    have hp : b.parent = -1 := by simp [Bd.parent, hs]
    rw [hp] at hat
    rw [hz] at hat ⊢
    unfold depthR
    rw [List.length_nil, if_pos rfl, hs]
    rw [if_pos (by exact_mod_cast hat)]
    rfl
  | some o =>
    obtain ⟨r, hr, hc⟩ := h.top ho
    have hlt := hc.lt
    have hp : b.parent = o.node := by simp [Bd.parent, ho]
    rw [hp] at hat
    have hlen : b.stack.length = r.length + 1 := by rw [← List.length_reverse, hr, List.length_cons]
    have hanc : Anc (b.nodes ++ [n] ++ e) o.node ((b.nodes.length : Int) - 1) := by
      rw [List.append_assoc]; exact (h.last o ho).mono (by omega)
    have hcl := hanc.climb (by omega) (b.nodes.length + 1) (by omega)
    have hc' : Chain (b.nodes ++ [n] ++ e) (o :: r) := by rw [List.append_assoc]; exact hc.mono
    have hlo : loAt (b.nodes ++ [n] ++ e) o.node ≠ [] := by
      obtain ⟨⟨m, m1, m2, _⟩, _⟩ := hc'
      simp only [loAt, Int.toNat_natCast, m1]; exact m2
    unfold depthR
    rw [if_neg (by omega), hat, hcl, if_neg (by rintro (h | h); omega; exact hlo h), hc'.count (by omega), hlen]
    omega
end Te
end Go.Proofs.YtigfcchblfnnbaaGreatDoor
namespace Go.Proofs.YtigfcchblfnnbaaGreatDoor
open Go Go.RowKit
set_option linter.all false
namespace Te
open Tk
def wN : NodeV := ⟨[], [119], [], [], -1, (0, 0)⟩
def wS : TokV := ⟨1, [119], [], [], (0, 0), false⟩
def wT : TokV := ⟨2, [119], [], [], (0, 0), false⟩
def wOp : Opn := ⟨0, [119], [(Te.tXml, xmlS)], (0, 0)⟩
def upN (n : NodeV) : NodeV := { n with par := n.par + 1 }
def upO (o : Opn) : Opn := { o with node := o.node + 1 }
def wrap (b : Bd) : Bd := ⟨wN :: b.nodes.map upN, wOp :: b.stack.map upO, true⟩
theorem wrap_last (b : Bd) : (wrap b).stack.getLast? = some ((b.stack.getLast?.map upO).getD wOp) := by
  show (wOp :: b.stack.map upO).getLast? = _
  rw [List.getLast?_cons, last_map]
theorem wrap_parent (b : Bd) : (wrap b).parent = b.parent + 1 := by
  unfold Bd.parent
  rw [wrap_last]
  cases b.stack.getLast? with
  | none => rfl
  | some o => show ((o.node + 1 : Nat) : Int) = _; dsimp only; omega
theorem wrap_scope (b : Bd) : (wrap b).scope = b.scope := by
  unfold Bd.scope
  rw [wrap_last]
  cases b.stack.getLast? with
  | none => rfl
  | some o => rfl
theorem first_start : token ⟨[], [], false⟩ wS = .ok (wrap ⟨[], [], false⟩) := by rfl
theorem start_wrap {b b1 : Bd} {t : TokV} (h : start b t = .ok b1) (hd : b.stack.length < 31) (hn : b.nodes.length < 2047) : start (wrap b) t = .ok (wrap b1) := by
  unfold start at h ⊢
  have h2 : (wrap b).stack.length = b.stack.length + 1 := by simp [wrap]
  have h3 : (wrap b).nodes.length = b.nodes.length + 1 := by simp [wrap]
  split at h
  · cases h
  split at h
  · cases h
  split at h
  · cases h
  rw [if_neg (by simp [wrap]), if_neg (by omega), if_neg (by omega), wrap_scope, wrap_parent, h3]
  rcases h4 : tagOf t b.scope with p | ⟨s, x, l⟩
  · rw [h4] at h; cases h
  · rw [h4] at h
    cases h
    dsimp only
    congr 1
    unfold wrap
    dsimp only
    cases t.empty <;> simp [upN, upO]
theorem token_wrap {b b1 : Bd} {t : TokV} (h : token b t = .ok b1) (hd : t.kind = 1 → b.stack.length < 31) (hn : b.nodes.length < 2047) (hk : t.kind = 1 ∨ t.kind = 2 ∨ b.stack ≠ []) : token (wrap b) t = .ok (wrap b1) := by
  have h3 : (wrap b).nodes.length = b.nodes.length + 1 := by simp [wrap]
  unfold token at h ⊢
  by_cases k1 : t.kind = 1
  · rw [if_pos k1] at h ⊢
    exact start_wrap h (hd k1) hn
  rw [if_neg k1] at h ⊢
  by_cases k2 : t.kind = 2
  · rw [if_pos k2] at h ⊢
    rw [wrap_last]
    cases ho : b.stack.getLast? with
    | none => rw [ho] at h; cases h
    | some o =>
      rw [ho] at h
      have hne : b.stack.map upO ≠ [] := by intro e; have : b.stack = [] := by simpa using e
                                            rw [this] at ho; simp at ho
      dsimp only at h
      split at h
      · rename_i he
        cases h
        dsimp only [Option.map_some, Option.getD_some]
        have : (upO o).nm = t.nm := he
        rw [if_pos this]
        congr 1
        unfold wrap
        simp [List.dropLast_cons_of_ne_nil hne]
      · cases h
  rw [if_neg k2] at h ⊢
  have hs : b.stack ≠ [] := by rcases hk with k | k | k; exact absurd k k1; exact absurd k k2; exact k
  have hs2 : (wrap b).stack ≠ [] := by simp [wrap]
  rw [if_neg hs] at h
  rw [if_neg hs2]
  split at h
  · cases h
  cases h
  rw [if_neg (by omega), wrap_parent]
  congr 1
  simp [wrap, upN]
/-- what is known of a text's tokens -/
structure TokOk (ts : List TokV) : Prop where
  kind : ∀ t ∈ ts, t.kind = 1 ∨ t.kind = 2 ∨ t.kind = 3
  nm : ∀ t ∈ ts, t.kind = 1 → t.nm ≠ []
  adj : ∀ (i : Nat) a b, ts[i]? = some a → ts[i + 1]? = some b → ¬ (a.kind = 3 ∧ b.kind = 3)
theorem TokOk.tail {t : TokV} {ts : List TokV} (h : TokOk (t :: ts)) : TokOk ts :=
  ⟨fun x hx => h.kind x (by simp [hx]), fun x hx => h.nm x (by simp [hx]), fun i a b ha hb => h.adj (i + 1) a b ha hb⟩
theorem loc_ne {nm : Bs} (h : nm ≠ []) (hf : formed nm = true) : loc nm ≠ [] := by
  unfold loc
  by_cases h1 : (58 : UInt8) ∈ nm
  · unfold formed at hf
    have hf2 : loc nm ≠ [] := by
      simp only [h1, decide_true, Bool.not_true, Bool.false_or, Bool.and_eq_true, decide_eq_true_eq] at hf
      exact hf.2.1
    unfold loc at hf2
    exact hf2
  · rw [if_neg h1]; exact h
theorem tag_lo {t : TokV} {s s1 : Sc} {x : Bs × Bs} {l : List ExV} (h : tagOf t s = .ok (s1, x, l)) (hn : t.nm ≠ []) : x.2 ≠ [] := by
  unfold tagOf at h
  split at h
  · cases h
  split at h
  · cases h
  rename_i s' _
  rcases he : expand s' t.nm true with e | y
  · rw [he] at h; cases h
  rw [he] at h
  dsimp only at h
  split at h
  · cases h
  split at h
  · cases h
  cases h
  unfold expand at he
  split at he
  · cases he
  rename_i hf
  split at he
  · cases he
  cases he
  refine loc_ne hn ?_
  simp only [Bool.not_eq_false] at hf
  exact (Bool.and_eq_true _ _ ▸ hf).1
/-- what a token does to what is known of a tree under way -/
theorem token_inv {b b1 : Bd} {t : TokV} (h : token b t = .ok b1) (I : Inv b) (hn : t.kind = 1 → t.nm ≠ []) (hs : b.stack ≠ [] → b.begun = true) :
    Inv b1 ∧ (b1.stack ≠ [] → b1.begun = true) ∧ (∃ e, b1.nodes = b.nodes ++ e) ∧ (t.kind = 1 → b1.begun = true ∧ b.nodes.length < b1.nodes.length ∧ ∀ e, depthR (b1.nodes ++ e) b.nodes.length = b.stack.length + 1) := by
  unfold token at h
  by_cases k1 : t.kind = 1
  · rw [if_pos k1] at h
    unfold start at h
    split at h
    · cases h
    rename_i hb
    split at h
    · cases h
    split at h
    · cases h
    rcases h4 : tagOf t b.scope with p | ⟨s, x, l⟩
    · rw [h4] at h; cases h
    rw [h4] at h
    have hlo := tag_lo h4 (hn k1)
    cases h
    dsimp only
    have hb' : b.stack = [] → b.begun = false := fun e => by
      cases hg : b.begun with
      | false => rfl
      | true => exact absurd ⟨e, hg⟩ hb
    refine ⟨?_, fun _ => rfl, ⟨_, rfl⟩, fun _ => ⟨rfl, by simp, fun e => I.depth _ rfl hb' e⟩⟩
    cases t.empty with
    | true => exact I.add _ rfl true rfl
    | false => exact I.push _ rfl hlo _ _ _
  rw [if_neg k1] at h
  refine ⟨?_, ?_, ?_, fun k => absurd k k1⟩
  all_goals
    by_cases k2 : t.kind = 2
    · rw [if_pos k2] at h
      cases ho : b.stack.getLast? with
      | none => rw [ho] at h; cases h
      | some o =>
        rw [ho] at h
        dsimp only at h
        split at h
        · cases h
          first
            | exact I.pop
            | exact ⟨[], by simp⟩
            | exact fun _ => hs (by intro e; rw [e] at ho; simp at ho)
        · cases h
    rw [if_neg k2] at h
    split at h
    · split at h
      · cases h
        first
          | exact I
          | exact ⟨[], by simp⟩
          | exact hs
      · cases h
    rename_i hne
    split at h
    · cases h
    cases h
    first
      | exact I.add _ rfl _ (hs hne)
      | exact ⟨_, rfl⟩
      | exact hs
theorem closed {t : TokV} {r : List TokV} {b bf : Bd} (hk : TokOk (t :: r)) (h3 : t.kind = 3) (hs : b.stack = []) (hb : b.begun = true) (h : tokensGo r b = .ok bf) : r = [] := by
  cases r with
  | nil => rfl
  | cons t2 r =>
    exfalso
    have hadj := hk.adj 0 t t2 rfl rfl
    have hk2 := hk.kind t2 (by simp)
    rw [tokensGo] at h
    unfold token start at h
    rcases hk2 with k | k | k
    · rw [if_pos k, if_pos ⟨hs, hb⟩] at h; cases h
    · rw [if_neg (by omega), if_pos k, hs] at h; cases h
    · exact hadj ⟨h3, k⟩
/-- THE SAME STEPS, ONE DEEPER -/
theorem sim : ∀ (N : List TokV) (b bf : Bd), tokensGo N b = .ok bf → TokOk N → Inv b → (b.stack ≠ [] → b.begun = true) → (b.begun = false → ∀ t, N.head? = some t → t.kind ≠ 3) →
    (∀ i, i < bf.nodes.length → depthR bf.nodes i < 32) → bf.nodes.length ≤ 2000 →
    (∃ e, bf.nodes = b.nodes ++ e) ∧ ∃ X, tokensGo N (wrap b) = .ok ⟨(wrap bf).nodes ++ X, (wrap bf).stack, true⟩
  | [], b, bf, h, _, _, _, _, _, _ => by
    rw [tokensGo] at h
    cases h
    exact ⟨⟨[], by simp⟩, [], by simp [tokensGo, wrap]⟩
  | t :: r, b, bf, h, hk, I, hs, hf, hd, hl => by
    rw [tokensGo] at h
    rcases h1 : token b t with p | b1
    · rw [h1] at h; cases h
    rw [h1] at h
    dsimp only at h
    by_cases hdrop : t.kind ≠ 1 ∧ t.kind ≠ 2 ∧ b.stack = []
    · -- blanks behind the root
      obtain ⟨n1, n2, hst⟩ := hdrop
      have k3 : t.kind = 3 := by have := hk.kind t (by simp); omega
      have hbg : b.begun = true := by
        cases hg : b.begun with
        | true => rfl
        | false => exact absurd k3 (hf hg t rfl)
      have e1 : b1 = b := by
        unfold token at h1
        rw [if_neg n1, if_neg n2, if_pos hst] at h1
        split at h1
        · cases h1; rfl
        · cases h1
      subst e1
      have hr := closed hk k3 hst hbg h
      subst hr
      rw [tokensGo] at h
      cases h
      refine ⟨⟨[], by simp⟩, [⟨[], [], [], t.text, (wrap bf).parent, t.at_⟩], ?_⟩
      rw [tokensGo]
      unfold token
      rw [if_neg n1, if_neg n2, if_neg (by simp [wrap]), if_neg (by simp [wrap]; omega)]
      dsimp only
      rw [tokensGo]
      rfl
    · obtain ⟨I1, hs1, ⟨e1, he1⟩, hst⟩ := token_inv h1 I (hk.nm t (by simp)) hs
      have hb1 : b1.begun = false → ∀ x, r.head? = some x → x.kind ≠ 3 := by
        intro hg
        exfalso
        by_cases k1 : t.kind = 1
        · rw [(hst k1).1] at hg; cases hg
        · have hne : b.stack ≠ [] ∨ t.kind = 2 := by
            by_cases k2 : t.kind = 2
            · exact .inr k2
            · exact .inl fun e => hdrop ⟨k1, k2, e⟩
          have hne' : b.stack ≠ [] := by
            rcases hne with h | h
            · exact h
            · intro e
              unfold token at h1
              rw [if_neg k1, if_pos h, e] at h1
              cases h1
          have hbg := hs hne'
          unfold token at h1
          rw [if_neg k1] at h1
          split at h1
          · split at h1
            · split at h1
              · cases h1; simp [hbg] at hg
              · cases h1
            · cases h1
          · split at h1
            · cases h1
            · cases h1; simp [hbg] at hg
      obtain ⟨⟨e2, he2⟩, X, hX⟩ := sim r b1 bf h hk.tail I1 hs1 hb1 hd hl
      refine ⟨⟨e1 ++ e2, by rw [he2, he1, List.append_assoc]⟩, X, ?_⟩
      have hlen : bf.nodes.length = b1.nodes.length + e2.length := by rw [he2, List.length_append]
      have hlen1 : b1.nodes.length = b.nodes.length + e1.length := by rw [he1, List.length_append]
      have hw : token (wrap b) t = .ok (wrap b1) := by
        refine token_wrap h1 (fun k1 => ?_) (by omega) (by by_cases k1 : t.kind = 1; exact .inl k1; by_cases k2 : t.kind = 2; exact .inr (.inl k2); exact .inr (.inr fun e => hdrop ⟨k1, k2, e⟩))
        obtain ⟨-, hlt, hdp⟩ := hst k1
        have := hd b.nodes.length (by omega)
        rw [he2, hdp] at this
        omega
      rw [tokensGo, hw]
      exact hX
theorem tokens_app : ∀ (a c : List TokV) (b b1 : Bd), tokensGo a b = .ok b1 → tokensGo (a ++ c) b = tokensGo c b1
  | [], c, b, b1, h => by rw [tokensGo] at h; cases h; rfl
  | t :: a, c, b, b1, h => by
    rw [tokensGo] at h
    rw [List.cons_append, tokensGo]
    rcases h1 : token b t with p | b2
    · rw [h1] at h; cases h
    · rw [h1] at h
      exact tokens_app a c b2 b1 h
/-- A TREE, ONE DEEPER -/
theorem build_nest {N : List TokV} {ns : List NodeV} (h : build N = .ok ns) (hk : TokOk N) (hf : ∀ t, N.head? = some t → t.kind ≠ 3) (hd : ∀ i, i < ns.length → depthR ns i < 32) (hl : ns.length ≤ 2000) :
    ∃ X, build ([wS] ++ (N ++ [wT])) = .ok (wN :: ns.map upN ++ X) := by
  unfold build at h
  rcases h1 : tokensGo N ⟨[], [], false⟩ with p | bf
  · rw [h1] at h; cases h
  rw [h1] at h
  dsimp only at h
  cases ho : bf.stack.getLast? with
  | some o => rw [ho] at h; cases h
  | none =>
    rw [ho] at h
    dsimp only at h
    have hst : bf.stack = [] := by simpa using ho
    split at h
    · rename_i hbg
      cases h
      obtain ⟨-, X, hX⟩ := sim N ⟨[], [], false⟩ bf h1 hk Inv.init (by simp) (fun _ => hf) hd hl
      refine ⟨X, ?_⟩
      unfold build
      rw [List.singleton_append, tokensGo, first_start]
      dsimp only
      rw [tokens_app _ _ _ _ hX, tokensGo]
      have : (wrap bf).stack = [wOp] := by simp [wrap, hst]
      rw [this]
      have ht : token ⟨(wrap bf).nodes ++ X, [wOp], true⟩ wT = .ok ⟨(wrap bf).nodes ++ X, [], true⟩ := rfl
      rw [ht]
      rfl
    · cases h
/-- a document that begins with a tag: its first token is one -/
theorem allGo_pre : ∀ (f : Nat) (xs : Cs) (st : St) (ts : List Tok), allGo f xs st = .ok ts → ∃ r, ts = st.toks ++ r
  | 0, xs, st, ts, h => by rw [allGo] at h; cases h
  | f + 1, xs, st, ts, h => by
    have hfl : ∃ r, st.flush.toks = st.toks ++ r := by unfold St.flush; split; exact ⟨[], by simp⟩; exact ⟨_, rfl⟩
    have e : ∀ (k : Nat) (t : Cs), ((st.begin k).say t).toks = st.toks := fun k t => by unfold St.begin St.say; split <;> rfl
    have A : ∀ {α : Type} (r : R α) (k : α → Cs → Except (Nat × Nat) (List Tok)), r.and k = .ok ts → ∃ a q, k a q = .ok ts := by
      intro α r k h
      rcases r with x | ⟨a, q⟩
      · cases h
      · exact ⟨a, q, h⟩
    obtain ⟨r0, h0⟩ := hfl
    rw [allGo] at h
    split at h
    · cases h; exact ⟨r0, h0⟩
    split at h
    · obtain ⟨a, q, h⟩ := A _ _ h; exact allGo_pre f _ _ _ h
    split at h
    · obtain ⟨a, q, h⟩ := A _ _ h; exact allGo_pre f _ _ _ h
    split at h
    · obtain ⟨a, q, h⟩ := A _ _ h; obtain ⟨r, hr⟩ := allGo_pre f _ _ _ h; exact ⟨r, by rw [hr, e]⟩
    split at h
    · cases h
    split at h
    · cases h
    split at h
    · obtain ⟨a, q, h⟩ := A _ _ h; obtain ⟨r, hr⟩ := allGo_pre f _ _ _ h
      exact ⟨r0 ++ ([a] ++ r), by rw [hr]; show st.flush.toks ++ [a] ++ r = _; rw [h0]; simp⟩
    · obtain ⟨a, q, h⟩ := A _ _ h; obtain ⟨r, hr⟩ := allGo_pre f _ _ _ h; exact ⟨r, by rw [hr, e]⟩
end Te
end Go.Proofs.YtigfcchblfnnbaaGreatDoor
namespace Go.Proofs.YtigfcchblfnnbaaGreatDoor
open Go Go.RowKit
set_option linter.all false
namespace Te
open Tk
theorem tag_kind {xs z : Cs} {t : Tok} (h : tag xs = .ok (t, z)) : t.kind ≠ 3 := by
  unfold tag at h
  have A : ∀ {α : Type} (r : R α) (k : α → Cs → Except (Nat × Nat) (Tok × Cs)), r.and k = .ok (t, z) → ∃ a q, k a q = .ok (t, z) := by
    intro α r k h
    rcases r with x | ⟨a, q⟩
    · cases h
    · exact ⟨a, q, h⟩
  split at h
  · obtain ⟨a, q, h⟩ := A _ _ h
    obtain ⟨a, q, h⟩ := A _ _ h
    cases h; simp
  · obtain ⟨a, q, h⟩ := A _ _ h
    obtain ⟨a, q, h⟩ := A _ _ h
    split at h
    · obtain ⟨a, q, h⟩ := A _ _ h; cases h; simp
    · obtain ⟨a, q, h⟩ := A _ _ h; cases h; simp
theorem tokOk_of {l : List UInt8} {ts : List TokV} (h : whole l = .ok ts) : TokOk ts := by
  have R := whole_rise h
  refine ⟨R.kind, fun t ht k e => ?_, fun i a b ha hb => (R.desc i a b ha hb).2⟩
  have := (R.nm t ht).2 e
  omega
theorem head_tag {l : List UInt8} {ts : List TokV} (h : whole l = .ok ts) (h0 : by8 l 0 = 60) (h1 : by8 l 1 ≠ 33) (h2 : by8 l 1 ≠ 63) : ∀ t, ts.head? = some t → t.kind ≠ 3 := by
  have hr0 : (rdA l).2 = 0 := by
    rw [← read_rdA]
    unfold whole at h
    split at h
    · cases h
    · split at h
      · cases h
      · rename_i h3; simpa using h3
  have hrd := RdBy.of l.length l (Nat.le_refl _) hr0
  generalize (rdA l).1 = cs at hrd
  obtain ⟨us, k1, k2⟩ := whole_of_read hrd.read h
  have hne : l ≠ [] := by rintro rfl; simp [by8] at h0
  have c0 : hd (fun c => c == 60) cs = true := by
    have := RdBy.head hrd 60 (by decide) (by decide)
    rw [← this, h0]; rfl
  obtain ⟨r, rfl⟩ : ∃ r, cs = 60 :: r := by
    cases cs with
    | nil => simp [hd] at c0
    | cons c r => simp [hd] at c0; exact ⟨r, by rw [c0]⟩
  obtain ⟨t, rfl, ht⟩ : ∃ t, l = 60 :: t ∧ RdBy t r := by
    cases hrd with
    | chr c t cs hc h => exact ⟨t, by rw [enc_dn (by decide)]; rfl, h⟩
  have c1 : hd (fun d => d == 33 || d == 63) r = false := by
    rw [hd_or]
    rw [← RdBy.head ht 33 (by decide) (by decide), ← RdBy.head ht 63 (by decide) (by decide)]
    have e : by8 (60 :: t) 1 = by8 t 0 := rfl
    rw [e] at h1 h2
    simp [h1, h2]
  have hd1 : decl (60 :: r) = .ok ((), 60 :: r) := by
    refine decl_no ?_
    cases r with
    | nil => rfl
    | cons c z =>
      have : c ≠ 63 := by simp [hd] at c1; exact c1.2
      simp [fires, pre, Tk.tXml, this]
  unfold tokens at k1
  rw [hd1, and_ok, allGo_tag _ _ _ c1] at k1
  rcases h5 : tag (60 :: r) with e | ⟨u, z⟩
  · rw [h5] at k1; cases k1
  rw [h5, and_ok] at k1
  obtain ⟨v, hv⟩ := allGo_pre _ _ _ _ k1
  have hu := tag_kind h5
  have e3 : us = u :: v := by rw [hv]; rfl
  intro x hx
  rw [k2, e3, List.map_cons, List.head?_cons] at hx
  cases hx
  exact hu
/-- TREENESTS, in plain words -/
theorem nest_plain {l : List UInt8} {ns : List NodeV} (h : parse l = .ok ns) (hl : l.length ≤ 3000) (h0 : by8 l 0 = 60) (h1 : by8 l 1 ≠ 33) (h2 : by8 l 1 ≠ 63) (hd : ∀ i, i < ns.length → depthR ns i < 32) (hn : ns.length ≤ 2000) :
    ∃ ms, parse ([60, 119, 62] ++ (l ++ [60, 47, 119, 62])) = .ok ms ∧ ns.length + 1 ≤ ms.length ∧ (∃ m, ms[0]? = some m ∧ m.lo = [119]) ∧ ∀ (i : Nat) n, ns[i]? = some n → ∃ m, ms[i + 1]? = some m ∧ nN m = nN (upN n) := by
  unfold parse at h
  rcases hw : whole l with e | ts
  · rw [hw] at h; cases h
  rw [hw] at h
  dsimp only at h
  obtain ⟨vs, w1, w2⟩ := whole_nest hw hl h0 h1 h2
  obtain ⟨X, hX⟩ := build_nest h (tokOk_of hw) (head_tag hw h0 h1 h2) hd hn
  obtain ⟨ms, m1, m2⟩ := build_like hX (us := vs) (by rw [w2, List.map_append, List.map_append]; rfl)
  refine ⟨ms, ?_, ?_, ?_, fun i n hi => ?_⟩
  · unfold parse
    rw [w1]
    exact m1
  · have := congrArg List.length m2
    simp only [List.length_map, List.length_append, List.length_cons] at this
    omega
  · have := congrArg (·[0]?) m2
    simp only [List.getElem?_map] at this
    cases hm : ms[0]? with
    | none => rw [hm] at this; simp at this
    | some m =>
      rw [hm] at this
      simp only [Option.map_some, List.cons_append, List.getElem?_cons_zero, Option.some.injEq] at this
      exact ⟨m, rfl, by have := congrArg NodeV.lo this; exact this⟩
  · have := congrArg (·[i + 1]?) m2
    simp only [List.getElem?_map] at this
    have hlt := (List.getElem?_eq_some_iff.1 hi).1
    rw [List.cons_append, List.getElem?_cons_succ, List.getElem?_append_left (by rw [List.length_map]; exact hlt), List.getElem?_map, hi] at this
    cases hm : ms[i + 1]? with
    | none => rw [hm] at this; simp at this
    | some m =>
      rw [hm] at this
      exact ⟨m, rfl, by simpa using this⟩
end Te
end Go.Proofs.YtigfcchblfnnbaaGreatDoor
