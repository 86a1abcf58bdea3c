/- Layer 2: the text under way: say, begin, flush. -/
import Derived.Test.YtigfcchblfnnbaaGreatDoorTkD
import Derived.Test.YtigfcchblfnnbaaGreatDoorTbE
import Derived.Test.YtigfcchblfnnbaaGreatDoorAppRead
import Derived.Deep.AppendLies
namespace Go.Proofs.YtigfcchblfnnbaaGreatDoor
open Go Go.RowKit
set_option linter.all false
namespace Tk
/-- a step of the scanner -/
structure Step (p : Pl) (w : World) (p' : Pl) (w' : World) : Prop where
  s : p'.s = p.s
  chg : Chg p.all w w'
  new : ∀ b ∈ p'.all, b ∈ p.all ∨ w.heap.size ≤ b
theorem Step.refl (p : Pl) (w : World) : Step p w p w := ⟨rfl, Chg.refl _ _, fun _ h => .inl h⟩
theorem Step.trans {p p1 p2 : Pl} {w w1 w2 : World} (h : Step p w p1 w1) (k : Step p1 w1 p2 w2) : Step p w p2 w2 :=
  ⟨k.s.trans h.s, h.chg.next k.chg h.new, fun b hb => (k.new b hb).elim (h.new b) fun hm => .inr (Nat.le_trans h.chg.size hm)⟩
theorem Step.pur {p p1 : Pl} {w w1 w2 : World} (h : Step p w p1 w1) (k : Pur w1 w2) : Step p w p1 w2 := ⟨h.s, h.chg.pur k, h.new⟩
theorem Step.chg1 {p : Pl} {w w1 : World} (h : Chg [p.s] w w1) : Step p w p w1 := ⟨rfl, h.mono fun b hb => .inl (by simp at hb; subst hb; simp [Pl.all]), fun _ h => .inl h⟩
theorem Step.flt {p p1 : Pl} {w w1 w' : World} {cs : Cs} {i n : Nat} {e : Ending} (h : Step p w p1 w1) (k : Flt p1.all w1 cs i n e w') : Flt p.all w cs i n e w' := k.next h.chg h.new
theorem Step.flt1 {p p1 : Pl} {w w1 w' : World} {cs : Cs} {i n : Nat} {e : Ending} (h : Step p w p1 w1) (k : Flt [p1.s] w1 cs i n e w') : Flt p.all w cs i n e w' :=
  k.next h.chg fun b hb => h.new b (by simp at hb; subst hb; simp [Pl.all])
theorem nodup_swap {A L L' M : List Nat} (h : (A ++ (L ++ M)).Nodup) (hl : L' = [] ∨ L' = L ∨ ∃ c, L' = [c] ∧ c ∉ A ++ (L ++ M)) : (A ++ (L' ++ M)).Nodup := by
  rw [List.nodup_append, List.nodup_append] at h
  obtain ⟨h1, ⟨h2, h3, h4⟩, h5⟩ := h
  rcases hl with rfl | rfl | ⟨c, rfl, hc⟩
  · rw [List.nodup_append, List.nil_append]
    exact ⟨h1, h3, fun a ha b hb => h5 a ha b (List.mem_append_right _ hb)⟩
  · rw [List.nodup_append, List.nodup_append]
    exact ⟨h1, ⟨h2, h3, h4⟩, h5⟩
  · simp only [List.mem_append, not_or] at hc
    rw [List.nodup_append, List.nodup_append]
    refine ⟨h1, ⟨by simp, h3, fun a ha b hb e => ?_⟩, fun a ha b hb e => ?_⟩
    · obtain rfl : a = c := by simpa using ha
      exact hc.2.2 (e ▸ hb)
    · rcases List.mem_append.1 hb with hb | hb
      · obtain rfl : b = c := by simpa using hb
        exact hc.1 (e ▸ ha)
      · exact h5 a ha b (List.mem_append_right _ hb) e
/-- another text under way, in another row perhaps -/
theorem At.setx {w w' : World} {p : Pl} {d : Sd} (h : At w p d) (v' : Value) (i b : Nat) (t : Cs) (hc : Chg (p.s :: p.xv.ownBlock.toList) w w')
    (hown : w'.heap[p.s]? = some (.cells #[p.cv, .int .i64 (i : Int), p.tv, v', .int .i64 (b : Int)] 87 (0, 0)))
    (hrow : w'.ownsRow 0 3 1 v' t.length (ints t)) (hok : ∀ c ∈ t, okc c) (hloc : v'.ownBlock = none ∨ v'.ownBlock = p.xv.ownBlock ∨ ∃ g, v'.ownBlock = some g ∧ w.heap.size ≤ g) :
    At w' { p with xv := v' } { d with i := i, text := t, began := b } ∧ Step p w { p with xv := v' } w' := by
  have hap := h.apart
  unfold Pl.all Pl.rows at hap
  have hn := nodup_swap (A := p.s :: p.tv.ownBlock.toList) (L := p.xv.ownBlock.toList) (L' := v'.ownBlock.toList) (M := p.cv.ownBlock.toList ++ p.kept) hap (by
    rcases hloc with e | e | ⟨g, e, hg⟩
    · exact .inl (by rw [e]; rfl)
    · exact .inr (.inl (by rw [e]))
    · refine .inr (.inr ⟨g, by rw [e]; rfl, fun hm => ?_⟩)
      have := h.lt g (by unfold Pl.all Pl.rows; exact hm)
      omega)
  have hap2 := hap
  rw [List.nodup_cons, List.nodup_append, List.nodup_append, List.nodup_append] at hap2
  obtain ⟨q1, q2, ⟨q3, ⟨q4, q5, q6⟩, q7⟩, q8⟩ := hap2
  simp only [List.mem_append, not_or] at q1
  have nin : ∀ g, (g ∈ p.tv.ownBlock.toList ∨ g ∈ p.cv.ownBlock.toList ∨ g ∈ p.kept) → g ∉ p.s :: p.xv.ownBlock.toList := by
    intro g hg hm
    rcases List.mem_cons.1 hm with rfl | hm
    · rcases hg with hg | hg | hg
      · exact q1.1 hg
      · exact q1.2.2.1 hg
      · exact q1.2.2.2 hg
    · rcases hg with hg | hg | hg
      · exact q8 g hg g (List.mem_append_left _ hm) rfl
      · exact q7 g hm g (List.mem_append_left _ hg) rfl
      · exact q7 g hm g (List.mem_append_right _ hg) rfl
  refine ⟨⟨hown, row_chg h.chars hc fun g hg => nin g (.inr (.inl (by simp [hg]))), hrow, row_chg h.toks hc fun g hg => nin g (.inl (by simp [hg])), h.len, fun j v t hv ht => row_chg (h.attrs j v t hv ht) hc fun g hg => nin g (.inr (.inr (List.mem_flatMap.2 ⟨v, List.mem_of_getElem? hv, by simp [hg]⟩))), hn, h.clen, h.okcs, hok⟩, rfl, ?_, ?_⟩
  · refine hc.mono fun b hb => .inl ?_
    unfold Pl.all Pl.rows
    rcases List.mem_cons.1 hb with rfl | hb
    · simp
    · simp only [List.mem_cons, List.mem_append]
      exact .inr (.inr (.inl hb))
  · intro g hg
    unfold Pl.all Pl.rows Pl.kept at hg ⊢
    simp only [List.mem_cons, List.mem_append] at hg ⊢
    rcases hg with hg | hg | hg | hg | hg
    · exact .inl (.inl hg)
    · exact .inl (.inr (.inl hg))
    · rcases hloc with e | e | ⟨g', e, hg'⟩
      · rw [e] at hg; simp at hg
      · rw [e] at hg; exact .inl (.inr (.inr (.inl hg)))
      · rw [e] at hg; simp at hg; subst hg; exact .inr hg'
    · exact .inl (.inr (.inr (.inr (.inl hg))))
    · exact .inl (.inr (.inr (.inr (.inr hg))))
/-- append of characters that a slice reads as -/
theorem append_read {ops : Array Oper} {rest : List Oper} {o : Oper} {a : Act} {Q : Exit → Act → World → Prop} (w : World) (hg : o.guard = none) (s x : Operand)
    (hop : o.op = .call { callee := .builtin .append, args := #[s, x], argTypes := #[85, 85] }) (v : Value) (acc t : Cs) (u : Value) (hs : a.eval s = v) (hx : a.eval x = u) (hown : w.ownsRow 0 3 1 v acc.length (ints acc)) (hr : IRead w u t)
    (hlen : acc.length ≤ 1000000) (hlen2 : t.length ≤ 1000000)
    (h : ∀ v' w', w'.ownsRow 0 3 1 v' (acc ++ t).length (ints (acc ++ t)) → w.grownBy w' v.ownBlock → (v'.ownBlock = v.ownBlock ∨ ∃ g, v'.ownBlock = some g ∧ w.heap.size ≤ g) → wpList Tryz.prog ops Q rest (a.put o.dst v') w') :
    wpList Tryz.prog ops Q (o :: rest) a w := by
  obtain ⟨i0, hi, hz0, hz1, hz2⟩ := info_parts int_info
  obtain ⟨ao, c, rfl, hc⟩ := hr
  rcases ao with _ | ad
  · have ht : t = [] := by
      cases t with
      | nil => rfl
      | cons y t => obtain ⟨g, o', e, _⟩ := hc 0 (by simp); cases e
    subst ht
    have hrun := run_append_nil (P := Tryz.prog) (w := w) 0 85 o.type 3 i0 1 Tryz.underlying85 hi v acc.length (ints acc) hown c
    refine wpList_plain hg fun K hK => ?_
    unfold Oper.wp
    simp only [List.length_nil] at hx
    simp [execOp, hop, resolve, invoke, builtin, hs, hx, hrun, Result.andThen]
    exact hK _ _ (h v w (by simpa using hown) (World.grownBy.refl w _) (.inl rfl))
  · refine wpList_append_own_at _ hg s x 85 hop 0 3 i0 (.int .i64 0) 1 8 Tryz.underlying85 hi hz0 hz1 hz2 rfl (by decide) v acc.length (ints acc) hs hown ad t.length c (ints t) hx (by rw [ints_length, Nat.mul_one]) ?_ ?_ ?_ ?_ (Nat.zero_le _) ?_
    · intro j y hj
      have hl : j < t.length := by have := (List.getElem?_eq_some_iff.1 hj).1; rwa [ints_length] at this
      obtain ⟨g, o', e, _, hk⟩ := hc j hl
      cases e
      have : (Addr.mk g o' none).add j = ⟨g, o' + j, none⟩ := by unfold Addr.add; split <;> simp_all
      rw [this, hk]
      simp only [ints, List.getElem?_map, List.getElem?_eq_getElem hl, Option.map_some, Option.some.injEq] at hj
      rw [← hj]
      simp [List.getD_eq_getElem?_getD, List.getElem?_eq_getElem hl]
    · exact fun y hy => ints_one y t hy
    · unfold maxLen; omega
    · omega
    · intro v' w' h1 h2 _ h4
      refine h v' w' (by rw [List.length_append, ints_append]; exact h1) h2 ?_
      rcases h4 with h4 | h4
      · exact .inl h4
      · exact .inr ⟨_, h4, Nat.le_refl _⟩
set_option maxRecDepth 100000 in
theorem say_any {w : World} {p : Pl} {d : Sd} (h : At w p d) (u : Value) (t : Cs) (hr : IRead w u t) (hok : ∀ c ∈ t, okc c) (hl : d.text.length ≤ 1000000) (hl2 : t.length ≤ 1000000) : Calls Tryz.prog 50 #[.pointer (some ⟨p.s, 0, none⟩), u] w fun e w' => e = .returned (.tuple #[]) ∧ ∃ p', At w' p' { d with text := d.text ++ t } ∧ Step p w p' w' := by
  have c3 := h.c3
  have hne := h.ne
  obtain ⟨xa, xc, hxv⟩ := row_shape h.text
  have hX := h.text
  rw [hxv] at c3 hX
  go_enter Tryz.func50, Tryz.ntmps50
  go_wp2_with (at_builtin; refine append_read w rfl _ _ (by rfl) _ d.text t u (by rfl) (by rfl) hX hr hl hl2 ?_)
  intro v' w' h1 h2 h3
  have hxs : (Value.slice xa d.text.length xc).ownBlock ≠ some p.s := fun e => hne (by rw [← hxv] at e; simp [Pl.rows, e])
  have K := (h2.block p.s (bk_lt h.own) (fun e => hxs e.symm)).trans h.own
  have f3 := bk_free K 3
  have k3 := bk_cell K 3 _ rfl
  have K' := bk_set K 3 v'
  obtain ⟨L, hL⟩ : ∃ L, d.text.length + t.length = L := ⟨_, rfl⟩
  rw [hL] at h1
  obtain ⟨a', c', hv'⟩ := row_shape h1
  subst hv'
  go_wp2
  refine bodyPost_end (results_none rfl _ _ _) rfl ?_
  have hC : Chg (p.s :: p.xv.ownBlock.toList) w (w'.setCell ⟨p.s, 3, none⟩ (.slice a' L c')) := ((Chg.refl _ w).grown h2 (fun b hb => .inl (by rw [← hxv] at hb; simp [hb]))).setCell (.inl (by simp)) _
  have hrow : (w'.setCell ⟨p.s, 3, none⟩ (.slice a' L c')).ownsRow 0 3 1 (.slice a' L c') L (ints (d.text ++ t)) := row_set h1 (a := ⟨p.s, 3, none⟩) (fun e => by
    rcases h3 with h3 | ⟨g, h3, hg⟩
    · exact hxs (h3.symm.trans e)
    · rw [h3] at e; have := bk_lt h.own; simp only [Option.some.injEq] at e; omega) _
  obtain ⟨g1, g2⟩ := h.setx (w' := w'.setCell ⟨p.s, 3, none⟩ (.slice a' L c')) (.slice a' L c') d.i d.began (d.text ++ t) hC (by simpa using K') (by rw [List.length_append, hL]; exact hrow) (fun c hc => (List.mem_append.1 hc).elim (h.okt c) (hok c)) (by
    rcases h3 with h3 | h3
    · exact .inr (.inl (by rw [hxv]; exact h3))
    · exact .inr (.inr h3))
  exact ⟨rfl, _, g1, g2⟩
set_option maxRecDepth 100000 in
theorem begin_any {w : World} {p : Pl} {d : Sd} (h : At w p d) : Calls Tryz.prog 49 #[.pointer (some ⟨p.s, 0, none⟩)] w fun e w' => e = .returned (.tuple #[]) ∧ At w' p { d with began := if d.text = [] then d.i else d.began } ∧ Chg [p.s] w w' := by
  have c3 := h.c3
  have c1 := h.c1
  have f4 := h.f 4
  have c4 := h.c4
  obtain ⟨xa, xc, hxv⟩ := row_shape h.text
  rw [hxv] at c3
  have K' := bk_set h.own 4 (.int .i64 (d.i : Int))
  by_cases ht : d.text = []
  · have d1 : ((d.text.length : Int) == 0) = true := by rw [ht]; rfl
    rw [if_pos ht]
    have hC : Chg (p.s :: p.xv.ownBlock.toList) w (w.setCell ⟨p.s, 4, none⟩ (.int .i64 (d.i : Int))) := (Chg.refl _ w).setCell (.inl (by simp)) _
    have hXs := row_set h.text (a := ⟨p.s, 4, none⟩) (fun e => h.ne (by simp [Pl.rows, e])) (.int .i64 (d.i : Int))
    obtain ⟨g1, -⟩ := h.setx p.xv d.i d.i d.text hC (by simpa using K') hXs h.okt (.inr (.inl rfl))
    clear ht hxv
    go_enter Tryz.func49, Tryz.ntmps49
    go_wp2
    refine bodyPost_end (results_none rfl _ _ _) rfl ?_
    exact ⟨rfl, g1, (Chg.refl _ w).setCell (.inl (by simp)) _⟩
  · have hl : 0 < d.text.length := List.length_pos_iff.2 ht
    have d1 : ((d.text.length : Int) == 0) = false := by rw [beq_eq_false_iff_ne]; omega
    rw [if_neg ht]
    clear ht hxv
    go_enter Tryz.func49, Tryz.ntmps49
    go_wp2
    refine bodyPost_end (results_none rfl _ _ _) rfl ?_
    exact ⟨rfl, h, Chg.refl _ w⟩
theorem tokCells_snoc (avs : List Value) (ts : List TokV) (v : Value) (x : TokV) (h : avs.length = ts.length) : tokCells (avs ++ [v]) (ts ++ [x]) = tokCells avs ts ++ x.cells v := by
  simp [tokCells, List.zip_append h]
/-- one token more, in another row perhaps, and another text under way -/
theorem At.sett {w w' : World} {p : Pl} {d : Sd} (h : At w p d) (v' av : Value) (x : TokV) (hc : Chg (p.s :: p.tv.ownBlock.toList) w w')
    (hown : w'.heap[p.s]? = some (.cells #[p.cv, .int .i64 (d.i : Int), v', p.xv, .int .i64 (d.began : Int)] 87 (0, 0)))
    (hrow : w'.ownsRow 0 60 7 v' (d.toks.length + 1) (tokCells p.avs d.toks ++ x.cells av)) (hloc : v'.ownBlock = p.tv.ownBlock ∨ ∃ g, v'.ownBlock = some g ∧ w.heap.size ≤ g ∧ av.ownBlock ≠ some g)
    (hav : w'.ownsRow 0 156 4 av x.attrs.length (x.attrs.flatMap AttrV.cells)) (hav2 : ∀ g, av.ownBlock = some g → g ∉ p.all) (w0 : World) (p0 : Pl) (hst : Step p0 w0 p w) (hav3 : ∀ g, av.ownBlock = some g → w0.heap.size ≤ g) :
    At w' { p with tv := v', avs := p.avs ++ [av] } { d with toks := d.toks ++ [x] } ∧ Step p0 w0 { p with tv := v', avs := p.avs ++ [av] } w' := by
  have hap := h.apart
  unfold Pl.all Pl.rows at hap
  have hn1 := nodup_swap (A := [p.s]) (L := p.tv.ownBlock.toList) (L' := v'.ownBlock.toList) (M := p.xv.ownBlock.toList ++ (p.cv.ownBlock.toList ++ p.kept)) hap (by
    rcases hloc with e | ⟨g, e, hg, -⟩
    · exact .inr (.inl (by rw [e]))
    · refine .inr (.inr ⟨g, by rw [e]; rfl, fun hm => ?_⟩)
      have := h.lt g (by unfold Pl.all Pl.rows; exact hm)
      omega)
  have hn2 : (({ p with tv := v', avs := p.avs ++ [av] } : Pl)).all.Nodup := by
    have e : (({ p with tv := v', avs := p.avs ++ [av] } : Pl)).all = ([p.s] ++ (v'.ownBlock.toList ++ (p.xv.ownBlock.toList ++ (p.cv.ownBlock.toList ++ p.kept)))) ++ av.ownBlock.toList := by
      simp [Pl.all, Pl.rows, Pl.kept]
    rw [e, List.nodup_append]
    refine ⟨hn1, by cases av.ownBlock <;> simp, fun a ha b hb hab => ?_⟩
    subst hab
    have hb' : av.ownBlock = some a := by simpa using hb
    have hna := hav2 a hb'
    unfold Pl.all Pl.rows at hna
    simp only [List.mem_cons, List.mem_append, not_or, List.not_mem_nil, or_false] at hna ha
    rcases ha with ha | ha | ha | ha | ha
    · exact hna.1 ha
    · rcases hloc with e | ⟨g, e, hg, hg2⟩
      · rw [e] at ha; exact hna.2.1 ha
      · rw [e] at ha; simp at ha; subst ha; exact hg2 hb'
    · exact hna.2.2.1 ha
    · exact hna.2.2.2.1 ha
    · exact hna.2.2.2.2 ha
  have hap2 := hap
  rw [List.nodup_cons, List.nodup_append, List.nodup_append, List.nodup_append] at hap2
  obtain ⟨q1, q2, ⟨q3, ⟨q4, q5, q6⟩, q7⟩, q8⟩ := hap2
  simp only [List.mem_append, not_or] at q1
  have nin : ∀ g, (g ∈ p.xv.ownBlock.toList ∨ g ∈ p.cv.ownBlock.toList ∨ g ∈ p.kept) → g ∉ p.s :: p.tv.ownBlock.toList := by
    intro g hg hm
    rcases List.mem_cons.1 hm with rfl | hm
    · rcases hg with hg | hg | hg
      · exact q1.2.1 hg
      · exact q1.2.2.1 hg
      · exact q1.2.2.2 hg
    · rcases hg with hg | hg | hg
      · exact q8 g hm g (List.mem_append_left _ hg) rfl
      · exact q8 g hm g (List.mem_append_right _ (List.mem_append_left _ hg)) rfl
      · exact q8 g hm g (List.mem_append_right _ (List.mem_append_right _ hg)) rfl
  refine ⟨⟨hown, row_chg h.chars hc fun g hg => nin g (.inr (.inl (by simp [hg]))), row_chg h.text hc fun g hg => nin g (.inl (by simp [hg])), ?_, by simp [h.len], ?_, hn2, h.clen, h.okcs, h.okt⟩, ?_⟩
  · have : (d.toks ++ [x]).length = d.toks.length + 1 := by simp
    rw [this, tokCells_snoc _ _ _ _ h.len]
    exact hrow
  · intro j v t hv ht
    simp only at hv ht
    by_cases hj : j < p.avs.length
    · rw [List.getElem?_append_left hj] at hv
      rw [List.getElem?_append_left (by rw [← h.len]; exact hj)] at ht
      exact row_chg (h.attrs j v t hv ht) hc fun g hg => nin g (.inr (.inr (List.mem_flatMap.2 ⟨v, List.mem_of_getElem? hv, by simp [hg]⟩)))
    · have hj' : j = p.avs.length := by
        have := (List.getElem?_eq_some_iff.1 hv).1
        simp at this
        omega
      subst hj'
      rw [List.getElem?_append_right (Nat.le_refl _)] at hv
      rw [List.getElem?_append_right (by rw [h.len]; exact Nat.le_refl _), h.len] at ht
      simp at hv ht
      subst hv ht
      exact hav
  · refine ⟨hst.s, ?_, ?_⟩
    · refine hst.chg.next hc fun b hb => hst.new b ?_
      unfold Pl.all Pl.rows
      rcases List.mem_cons.1 hb with rfl | hb
      · simp
      · simp only [List.mem_cons, List.mem_append]
        exact .inr (.inl hb)
    · intro g hg
      have old : (g = p.s ∨ g ∈ p.tv.ownBlock.toList ∨ g ∈ p.xv.ownBlock.toList ∨ g ∈ p.cv.ownBlock.toList ∨ g ∈ p.avs.flatMap fun v => v.ownBlock.toList) → g ∈ p0.all ∨ w0.heap.size ≤ g := fun hx => hst.new g (by
        unfold Pl.all Pl.rows Pl.kept
        simp only [List.mem_cons, List.mem_append]
        exact hx)
      have hws := hst.chg.size
      unfold Pl.all Pl.rows Pl.kept at hg
      simp only [List.mem_cons, List.mem_append, List.flatMap_append, List.flatMap_cons, List.flatMap_nil, List.append_nil] at hg
      rcases hg with hg | hg | hg | hg | hg | hg
      · exact old (.inl hg)
      · rcases hloc with e | ⟨g', e, hg', -⟩
        · rw [e] at hg; exact old (.inr (.inl hg))
        · rw [e] at hg; simp at hg; subst hg; exact .inr (Nat.le_trans hws hg')
      · exact old (.inr (.inr (.inl hg)))
      · exact old (.inr (.inr (.inr (.inl hg))))
      · exact old (.inr (.inr (.inr (.inr hg))))
      · exact .inr (hav3 g (by simpa using hg))
set_option maxRecDepth 100000 in
set_option maxHeartbeats 16000000 in
theorem flush_any {w : World} {p : Pl} {d : Sd} (h : At w p d) (hb : d.began ≤ 1000000) (hl : d.text.length ≤ 1000000) (hl2 : d.toks.length ≤ 1000000) : Calls Tryz.prog 55 #[.pointer (some ⟨p.s, 0, none⟩)] w fun e w' => e = .returned (.tuple #[]) ∧ ∃ p', At w' p' { d with toks := if d.text = [] then d.toks else d.toks ++ [⟨3, [], [], narrow d.text, place d.cs d.began, false⟩], text := [] } ∧ Step p w p' w' := by
  have c3 := h.c3
  have f3 := h.f 3
  obtain ⟨xa, xc, hxv⟩ := row_shape h.text
  rw [hxv] at c3
  by_cases ht : d.text = []
  · have d1 : d.text.length = 0 := by rw [ht]; rfl
    rw [if_pos ht]
    have K' := bk_set h.own 3 (.slice none 0 0)
    have hC : Chg (p.s :: p.xv.ownBlock.toList) w (w.setCell ⟨p.s, 3, none⟩ (.slice none 0 0)) := (Chg.refl _ w).setCell (.inl (by simp)) _
    obtain ⟨g1, g2⟩ := h.setx (.slice none 0 0) d.i d.began [] hC (by simpa using K') (World.ownsRow_nil _ _ _ _) (by simp) (.inl rfl)
    clear ht hxv
    go_enter Tryz.func55, Tryz.ntmps55
    go_wp2
    refine bodyPost_end (results_none rfl _ _ _) rfl ?_
    exact ⟨rfl, _, g1, g2⟩
  · have hl0 : 0 < d.text.length := List.length_pos_iff.2 ht
    have d1 : decide ((0 : Int) < (d.text.length : Int)) = true := by simp; omega
    rw [if_neg ht]
    have C2 : ∀ w', Pur w w' → w'.cell? ⟨p.s, 2, none⟩ = some p.tv := fun w' hp => (h.pur hp).c2
    have C3 : ∀ w', Pur w w' → w'.cell? ⟨p.s, 3, none⟩ = some (.slice xa d.text.length xc) := fun w' hp => hxv ▸ (h.pur hp).c3
    have C4 : ∀ w', Pur w w' → w'.cell? ⟨p.s, 4, none⟩ = some (.int .i64 (d.began : Int)) := fun w' hp => (h.pur hp).c4
    have NR : ∀ w', Pur w w' → Calls Tryz.prog 86 #[.slice xa d.text.length xc] w' _ := fun w' hp => narrow_any _ d.text _ (hxv ▸ IRead.of_own (h.pur hp).text) h.okt hl
    have PLC : ∀ w', Pur w w' → _ := fun w' hp => place_any (h.pur hp) d.began hb
    have hlt : p.s < w.heap.size := bk_lt h.own
    have htvs : some p.s ≠ p.tv.ownBlock := fun e => h.ne (by simp [Pl.rows, ← e])
    obtain ⟨i0, hi, hz⟩ := Option.map_eq_some_iff.1 tok_info
    simp only [Prod.mk.injEq] at hz
    obtain ⟨hz0, hz1, hz2⟩ := hz
    obtain ⟨z0, hz0, hzs⟩ := Option.map_eq_some_iff.1 hz0
    have q2 := C2 w (Pur.refl w)
    have q4 := C4 w (Pur.refl w)
    clear ht
    go_enter Tryz.func55, Tryz.ntmps55
    go_wp2
    go_region_law
      (first
        | (go_simp; go_at_call 86; refine (NR _ (by first | exact Pur.refl _ | exact (Pur.refl _).drew)).mono ?_; rintro e w5 ⟨rfl, hpw⟩; have hp5 : Pur w w5 := (by first | exact hpw | exact ((Pur.refl _).drew).trans hpw); have r2 := C2 w5 hp5; have r4 := C4 w5 hp5)
        | (go_simp; go_at_call 82; refine (PLC _ hp5).mono ?_; rintro e w6 ⟨rfl, hpw6⟩; have hp6 := hp5.trans hpw6; have s2 := C2 w6 hp6; have s2' := C2 _ (hp6.alloc (.cells #[.int .i64 3, .string ⟨#[]⟩, .slice none 0 0, .string ⟨(narrow d.text).toArray⟩, .int .i64 ((place d.cs d.began).1 : Int), .int .i64 ((place d.cs d.began).2 : Int), .bool false] 60)))
        | (refine step_append_lies _ (by rfl) _ _ _ (by rfl) 0 60 i0 z0 7 88 Tryz.underlying51 hi hz0 hz1 hz2 hzs (by omega) p.tv d.toks.length (tokCells p.avs d.toks) (by rfl) ((h.pur hp6).toks.alloc _) ⟨w6.heap.size, 0, none⟩ 1 1 [.int .i64 3, .string ⟨#[]⟩, .slice none 0 0, .string ⟨(narrow d.text).toArray⟩, .int .i64 ((place d.cs d.began).1 : Int), .int .i64 ((place d.cs d.began).2 : Int), .bool false] (by rfl) (by rfl) (World.news_of_block (cs := #[.int .i64 3, .string ⟨#[]⟩, .slice none 0 0, .string ⟨(narrow d.text).toArray⟩, .int .i64 ((place d.cs d.began).1 : Int), .int .i64 ((place d.cs d.began).2 : Int), .bool false]) (t := 60) (fr := (0, 0)) (heap_alloc_new w6 _)) (by simp [Value.oneCell']) (by omega) (by unfold maxLen; omega) (by omega) (Nat.zero_le _) (w6.heap.size + 1) (by simp) ?_; intro gg cap w7 hown7 hgrow hat hlt7; have K7 := (hgrow.block p.s (by have := (hp6.alloc (.cells #[.int .i64 3, .string ⟨#[]⟩, .slice none 0 0, .string ⟨(narrow d.text).toArray⟩, .int .i64 ((place d.cs d.began).1 : Int), .int .i64 ((place d.cs d.began).2 : Int), .bool false] 60)).size; omega) htvs).trans (h.pur (hp6.alloc (.cells #[.int .i64 3, .string ⟨#[]⟩, .slice none 0 0, .string ⟨(narrow d.text).toArray⟩, .int .i64 ((place d.cs d.began).1 : Int), .int .i64 ((place d.cs d.began).2 : Int), .bool false] 60))).own; have q7 := bk_cell K7 2 _ rfl; have q8 := bk_free K7 2))
    all_goals
      have h6 := h.pur (hp6.alloc (.cells #[.int .i64 3, .string ⟨#[]⟩, .slice none 0 0, .string ⟨(narrow d.text).toArray⟩, .int .i64 ((place d.cs d.began).1 : Int), .int .i64 ((place d.cs d.began).2 : Int), .bool false] 60))
      have B8 := bk_set K7 2 (.slice (some ⟨gg, 0, none⟩) (d.toks.length + 1) cap)
      have q3 := bk_cell B8 3 _ rfl
      have q9 := bk_free B8 3
      have hs1 : (w6.alloc (.cells #[.int .i64 3, .string ⟨#[]⟩, .slice none 0 0, .string ⟨(narrow d.text).toArray⟩, .int .i64 ((place d.cs d.began).1 : Int), .int .i64 ((place d.cs d.began).2 : Int), .bool false] 60)).heap.size = w6.heap.size + 1 := Array.size_push _
      have hw6 := hp6.size
      have hC : Chg (p.s :: p.tv.ownBlock.toList) (w6.alloc (.cells #[.int .i64 3, .string ⟨#[]⟩, .slice none 0 0, .string ⟨(narrow d.text).toArray⟩, .int .i64 ((place d.cs d.began).1 : Int), .int .i64 ((place d.cs d.began).2 : Int), .bool false] 60)) (w7.setCell ⟨p.s, 2, none⟩ (.slice (some ⟨gg, 0, none⟩) (d.toks.length + 1) cap)) := ((Chg.refl _ _).grown hgrow (fun b hb => .inl (by simp [hb]))).setCell (.inl (by simp)) _
      have hgs : gg ≠ p.s := fun e => by
        rcases hat with hat | hat
        · exact htvs (by rw [← e]; exact hat.symm)
        · omega
      have hrow := row_set hown7 (a := ⟨p.s, 2, none⟩) (fun e => hgs (by simpa [Value.ownBlock] using e)) (.slice (some ⟨gg, 0, none⟩) (d.toks.length + 1) cap)
      obtain ⟨g1, g2⟩ := h6.sett (.slice (some ⟨gg, 0, none⟩) (d.toks.length + 1) cap) (.slice none 0 0) ⟨3, [], [], narrow d.text, place d.cs d.began, false⟩ hC (by simpa using B8) hrow (by
        rcases hat with hat | hat
        · exact .inl hat.symm
        · exact .inr ⟨gg, rfl, by omega, by simp [Value.ownBlock]⟩) (World.ownsRow_nil _ _ _ _) (by simp [Value.ownBlock]) w p ((Step.refl p w).pur (hp6.alloc _)) (by simp [Value.ownBlock])
      obtain ⟨g3, g4⟩ := g1.setx (.slice none 0 0) d.i d.began [] ((Chg.refl _ _).setCell (a := ⟨p.s, 3, none⟩) (.inl (by simp)) (.slice none 0 0)) (by simpa using bk_set g1.own 3 (.slice none 0 0)) (World.ownsRow_nil _ _ _ _) (by simp) (.inl rfl)
      have G := g2.trans g4
      clear hC hrow g1 g2 g4 h6 NR PLC C2 C3 C4
      go_wp2
      refine bodyPost_end (results_none rfl _ _ _) rfl ?_
      exact ⟨rfl, _, g3, G⟩
end Tk
end Go.Proofs.YtigfcchblfnnbaaGreatDoor
