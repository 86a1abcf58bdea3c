/- Layer 2, the document's answer: the tokens. Layer 2, the document's answer: what the loop of Tokens holds; one token more. Layer 2, the document's answer: the tokens of every document. -/
import Derived.Test.YtaknfofppknloaaGreatDoorTr13
import Derived.Test.YtaknfofppknloaaGreatDoorTk19
import Derived.Test.YtaknfofppknloaaGreatDoorTk18
import Derived.Test.YtaknfofppknloaaGreatDoorTzP
namespace Go.Proofs.YtaknfofppknloaaGreatDoor
open Go Go.RowKit
set_option linter.all false
namespace Tk
theorem results_tct {P : Program} {fn : Func} {t p u : Tmp} {ty : TypeId} (h : fn.results = #[.tmp t, .cell p ty, .tmp u]) (tmps : Array Value) (w : World) (g : Nat) (t' : TypeId) (cs : Array Value) (fr : Nat × Nat) (d : TypeDesc)
    (hp : tmps.getD p undef = .pointer (some ⟨g, 0, none⟩)) (hg : w.heap[g]? = some (.cells cs t' fr))
    (hu : P.underlying ty = some d) (hd : (match d with | .struct _ | .array _ _ => true | _ => false) = true) (hi : (P.info? ty).map (·.size) = some cs.size) :
    (results fn tmps).run P w = .ok (.tuple #[tmps.getD t undef, .agg cs, tmps.getD u undef]) w := by
  have hp' : tmps[p]?.getD undef = .pointer (some ⟨g, 0, none⟩) := by simpa using hp
  simp [results, h, hp', asAddr, run_loadVar_row w g t' ty cs fr d hg hu hd hi]
set_option maxRecDepth 100000 in
set_option maxHeartbeats 16000000 in
/-- a document that is too long, or refused -/
theorem rtokens_bad (l : List UInt8) (w : World) (wh : Nat × Nat) (n : Nat) (hn : n ≠ 0) (hw : (65536 < l.length ∧ n = 2 ∧ wh = (1, 1)) ∨ (¬ 65536 < l.length ∧ (read l).2 = n ∧ wh = place (read l).1 (read l).1.length)) :
    Calls Tryz.prog 6 #[.string ⟨l.toArray⟩] w fun e w' => e = .returned (.tuple #[.slice none 0 0, .agg #[.int .i64 (wh.1 : Int), .int .i64 (wh.2 : Int)], .int .i64 (n : Int)]) ∧ Pur w w' := by
  have RD := fun w => rread_any l w
  have HE : ∀ w0 e w', RRead w0 l e w' → ∃ p, e = .returned (.pointer (some ⟨p, 0, none⟩)) ∧ Pur w0 w' ∧ w0.heap.size ≤ p ∧ ErrAt w' p n wh := by
    rintro w0 e w' ⟨p, e1, e2, e3, e4⟩
    refine ⟨p, e1, e2, e3, ?_⟩
    rcases hw with ⟨h1, rfl, rfl⟩ | ⟨h1, h2, rfl⟩
    · rw [if_pos h1] at e4; exact e4
    · rw [if_neg h1, if_neg (by omega)] at e4; rw [← h2]; exact e4
  clear hw
  go_enter Tryz.func6, Tryz.ntmps6
  go_wp2_with fail
  refine (RD _).mono ?_
  intro e w1 hr
  obtain ⟨p, rfl, p1, hp, a, b, c, i, K⟩ := HE _ _ _ hr
  have hs1 : (w.alloc (.cells #[.int .i64 0, .int .i64 0] 29)).heap.size = w.heap.size + 1 := Array.size_push _
  have K3 : w1.heap[w.heap.size]? = some (.cells #[.int .i64 0, .int .i64 0] 29) := bk_pur (bk_new _ _) p1
  have c4 := bk_cell K 4 _ rfl
  have c5 := bk_cell K 5 _ rfl
  have c6 := bk_cell K 6 _ rfl
  have y0 := bk_cell K3 0 _ rfl
  have y1 := bk_cell K3 1 _ rfl
  have g0 := bk_free K3 0
  have g1 := bk_free K3 1
  have dn : ((n : Int) != 0) = true := by rw [bne_iff_ne]; omega
  have hne : p ≠ w.heap.size := by omega
  clear hr HE RD
  go_wp2
  go_region
  all_goals
    have KF := bk_set (bk_set K3 0 (.int .i64 (wh.1 : Int))) 1 (.int .i64 (wh.2 : Int))
    have KD : ((w1.setCell ⟨w.heap.size, 0, none⟩ (.int .i64 (wh.1 : Int))).setCell ⟨w.heap.size, 1, none⟩ (.int .i64 (wh.2 : Int))).drew.heap[w.heap.size]? = some (.cells #[.int .i64 (wh.1 : Int), .int .i64 (wh.2 : Int)] 29 (0, 0)) := bk_pur KF ((Pur.refl _).drew)
    have PF : Pur w ((w1.setCell ⟨w.heap.size, 0, none⟩ (.int .i64 (wh.1 : Int))).setCell ⟨w.heap.size, 1, none⟩ (.int .i64 (wh.2 : Int))).drew := (((((Pur.refl w).alloc _).trans p1).setCell (p := ⟨w.heap.size, 0, none⟩) (Nat.le_refl _) _).setCell (p := ⟨w.heap.size, 1, none⟩) (Nat.le_refl _) _).drew
    go_wp2
    (try simp only [Exit.inBlock, Exit.then])
    refine bodyPost_ret (results_tct rfl _ _ w.heap.size 29 _ (0, 0) _ rfl KD Tryz.underlying29 rfl (by kernel_rfl)) rfl ?_
    exact ⟨rfl, PF⟩
end Tk
end Go.Proofs.YtaknfofppknloaaGreatDoor
namespace Go.Proofs.YtaknfofppknloaaGreatDoor
open Go Go.RowKit
set_option linter.all false
namespace Tk
theorem TokRow.chg {S : List Nat} {w w' : World} {B : Nat} {v : Value} {avs : List Value} {ts : List TokV} (h : TokRow w B v avs ts) (hc : Chg S w w') (hS : ∀ b ∈ S, b < B) : TokRow w' B v avs ts := by
  have nin : ∀ g, g ∈ v.ownBlock.toList ++ avs.flatMap (fun v => v.ownBlock.toList) → g ∉ S := fun g hg hs => by
    have := h.low g hg
    have := hS g hs
    omega
  exact ⟨row_chg h.toks hc fun g hg => nin g (by simp [hg]), h.len, fun j u t hu ht => row_chg (h.attrs j u t hu ht) hc fun g hg => nin g (List.mem_append_right _ (List.mem_flatMap.2 ⟨u, List.mem_of_getElem? hu, by simp [hg]⟩)), h.apart, h.low⟩
theorem TokRow.pur {w w' : World} {B : Nat} {v : Value} {avs : List Value} {ts : List TokV} (h : TokRow w B v avs ts) (hp : Pur w w') : TokRow w' B v avs ts :=
  h.chg (S := []) (.of_pur hp) (by simp)
theorem TokRow.own_lt {w : World} {B : Nat} {v : Value} {avs : List Value} {ts : List TokV} (h : TokRow w B v avs ts) : ∀ b ∈ v.ownBlock.toList ++ avs.flatMap (fun v => v.ownBlock.toList), b < w.heap.size := by
  intro b hb
  rcases List.mem_append.1 hb with hb | hb
  · exact (h.toks.lt b (by simpa using hb)).2
  · obtain ⟨u, hu, hb⟩ := List.mem_flatMap.1 hb
    obtain ⟨j, hj⟩ := List.getElem?_of_mem hu
    have hj' := (List.getElem?_eq_some_iff.1 hj).1
    exact ((h.attrs j u _ hj (List.getElem?_eq_getElem (by rw [← h.len]; exact hj'))).lt b (mem_own.1 hb)).2
theorem TokRow.push {w w' : World} {B : Nat} {v : Value} {avs : List Value} {ts : List TokV} (h : TokRow w B v avs ts) {o : Obj} (hg : (w.alloc o).grownBy w' v.ownBlock) (v' av : Value) (x : TokV)
    (hrow : w'.ownsRow 0 38 7 v' (ts.length + 1) (tokCells avs ts ++ x.cells av)) (hloc : v'.ownBlock = v.ownBlock ∨ v'.ownBlock = some (w.heap.size + 1)) (hB : B ≤ w.heap.size)
    (hav : w.ownsRow B 40 4 av x.attrs.length (x.attrs.flatMap AttrV.cells)) (hav2 : ∀ g, av.ownBlock = some g → g ∉ v.ownBlock.toList ++ avs.flatMap (fun v => v.ownBlock.toList)) :
    TokRow w' B v' (avs ++ [av]) (ts ++ [x]) := by
  have hs : (w.alloc o).heap.size = w.heap.size + 1 := Array.size_push _
  have blk : ∀ g, g < w.heap.size → v.ownBlock ≠ some g → w'.heap[g]? = w.heap[g]? := fun g hg1 hg2 => by
    rw [hg.block g (by omega) (fun e => hg2 e.symm)]
    exact ((Pur.refl w).alloc o).block g hg1
  have hlt := h.own_lt
  have hap := h.apart
  have hap2 := hap
  rw [List.nodup_append] at hap2
  obtain ⟨q1, q2, q3⟩ := hap2
  have kept : ∀ (u : Value), u ∈ avs → ∀ g, u.ownBlock = some g → w'.heap[g]? = w.heap[g]? := fun u hu g hgu => by
    have hm : g ∈ avs.flatMap (fun v => v.ownBlock.toList) := List.mem_flatMap.2 ⟨u, hu, by simp [hgu]⟩
    refine blk g (hlt g (List.mem_append_right _ hm)) (fun e => ?_)
    exact q3 g (by simp [e]) g hm rfl
  have havl : ∀ g, av.ownBlock = some g → B ≤ g ∧ g < w.heap.size := fun g hgv => hav.lt g hgv
  refine ⟨?_, by simp [h.len], ?_, ?_, ?_⟩
  · rw [List.length_append, List.length_singleton, tokCells_snoc _ _ _ _ h.len]
    exact hrow
  · intro j u t hu ht
    by_cases hj : j < avs.length
    · rw [List.getElem?_append_left hj] at hu
      rw [List.getElem?_append_left (by rw [← h.len]; exact hj)] at ht
      exact row_same (h.attrs j u t hu ht) fun g hgu => kept u (List.mem_of_getElem? hu) g hgu
    · have hj' : j = avs.length := by
        have := (List.getElem?_eq_some_iff.1 hu).1
        simp at this
        omega
      subst hj'
      rw [List.getElem?_append_right (Nat.le_refl _)] at hu
      rw [List.getElem?_append_right (by rw [h.len]; exact Nat.le_refl _), h.len] at ht
      simp at hu ht
      subst hu ht
      refine row_same (row_mono hav (Nat.zero_le _)) fun g hgu => blk g (havl g hgu).2 (fun e => hav2 g hgu (by simp [e]))
  · have hn : (([] : List Nat) ++ (v'.ownBlock.toList ++ avs.flatMap (fun v => v.ownBlock.toList))).Nodup := nodup_swap (A := []) (L := v.ownBlock.toList) hap (by
      rcases hloc with e | e
      · exact .inr (.inl (by rw [e]))
      · refine .inr (.inr ⟨_, by rw [e]; rfl, fun hm => ?_⟩)
        have := hlt _ hm
        omega)
    rw [List.nil_append] at hn
    rw [List.flatMap_append, ← List.append_assoc, List.nodup_append]
    refine ⟨hn, by cases h : av.ownBlock <;> simp [h], fun a ha b hb hab => ?_⟩
    subst hab
    have hb' : av.ownBlock = some a := by simpa using hb
    have hna := hav2 a hb'
    have hal := havl a hb'
    rcases List.mem_append.1 ha with ha | ha
    · rcases hloc with e | e
      · rw [e] at ha; exact hna (List.mem_append_left _ ha)
      · rw [e] at ha; simp at ha; omega
    · exact hna (List.mem_append_right _ ha)
  · intro b hb
    rw [List.flatMap_append] at hb
    simp only [List.mem_append, List.flatMap_cons, List.flatMap_nil, List.append_nil] at hb
    rcases hb with hb | hb | hb
    · rcases hloc with e | e
      · rw [e] at hb; exact h.low b (List.mem_append_left _ hb)
      · rw [e] at hb; simp at hb; omega
    · exact h.low b (List.mem_append_right _ hb)
    · exact (havl b (by simpa using hb)).1
/-- what lies there in the loop of Tokens: the scan, the row of tokens, two places -/
structure RB (w wr : World) (r : Ro) (cs : Cs) (q3 q8 B j e : Nat) (wh : Nat × Nat) (v : Value) (m : Nat) (xs : List Value) (p : Nat × Nat) : Prop where
  sc : Sc wr r cs j e wh
  chg : Chg [r.p, q8] w wr
  own : wr.ownsRow 0 38 7 v m xs
  vlow : ∀ b, v.ownBlock = some b → B ≤ b
  at_ : wr.heap[q8]? = some (.cells #[.int .i64 (p.1 : Int), .int .i64 (p.2 : Int)] 29 (0, 0))
  res : wr.heap[q3]? = some (.cells #[.int .i64 0, .int .i64 0] 29 (0, 0))
  low : ∀ b ∈ r.p :: r.row, b < B
  l8 : q8 < B
  n8 : q8 ∉ r.p :: r.row
  n3 : q3 ≠ r.p
  n38 : q3 ≠ q8
  bsz : B ≤ wr.heap.size
  new : w.heap.size ≤ q3 ∧ w.heap.size ≤ q8 ∧ w.heap.size ≤ r.p ∧ w.heap.size ≤ B ∧ q3 < B
section
variable {w wr w' : World} {r : Ro} {cs : Cs} {q3 q8 B j e : Nat} {wh : Nat × Nat} {v : Value} {m : Nat} {xs : List Value} {p : Nat × Nat}
/-- the scan has gone on -/
theorem RB.chgd (h : RB w wr r cs q3 q8 B j e wh v m xs p) {j' e' : Nat} {wh' : Nat × Nat} (hs : Sc w' r cs j' e' wh') (hc : Chg [r.p] wr w') : RB w w' r cs q3 q8 B j' e' wh' v m xs p := by
  have hn8 := h.n8
  simp only [List.mem_cons, not_or] at hn8
  exact ⟨hs, h.chg.next hc (fun b hb => .inl (by simp at hb; simp [hb])), row_chg h.own hc (fun b hb hm => by simp at hm; subst hm; have := h.vlow _ hb; have := h.low _ (List.mem_cons_self ..); omega), h.vlow, bk_chg h.at_ hc (by simp; exact hn8.1), bk_chg h.res hc (by simp; exact h.n3), h.low, h.l8, h.n8, h.n3, h.n38, Nat.le_trans h.bsz hc.size, h.new⟩
theorem RB.pur (h : RB w wr r cs q3 q8 B j e wh v m xs p) (hp : Pur wr w') : RB w w' r cs q3 q8 B j e wh v m xs p := h.chgd (h.sc.pur hp) (.of_pur hp)
/-- where the text under way began -/
theorem RB.setat (h : RB w wr r cs q3 q8 B j e wh v m xs p) (k : Nat) (u : Value) (p' : Nat × Nat) (hk : (#[Value.int .i64 (p.1 : Int), .int .i64 (p.2 : Int)]).setIfInBounds k u = #[.int .i64 (p'.1 : Int), .int .i64 (p'.2 : Int)]) : RB w (wr.setCell ⟨q8, k, none⟩ u) r cs q3 q8 B j e wh v m xs p' := by
  have hc : Chg [q8] wr (wr.setCell ⟨q8, k, none⟩ u) := (Chg.refl _ wr).setCell (.inl (by simp)) _
  refine ⟨h.sc.set_other h.n8 _, h.chg.next hc (fun b hb => .inl (by simp at hb; simp [hb])), row_chg h.own hc (fun b hb hm => by simp at hm; subst hm; have := h.vlow _ hb; have := h.l8; omega), h.vlow, ?_, bk_other h.res h.n38 _, h.low, h.l8, h.n8, h.n3, h.n38, Nat.le_trans h.bsz hc.size, h.new⟩
  rw [← hk]
  exact bk_set h.at_ k u
/-- one token more -/
theorem RB.push (h : RB w wr r cs q3 q8 B j e wh v m xs p) {o : Obj} (hg : (wr.alloc o).grownBy w' v.ownBlock) (v' : Value) (ys : List Value)
    (hrow : w'.ownsRow 0 38 7 v' (m + 1) ys) (hloc : v'.ownBlock = v.ownBlock ∨ v'.ownBlock = some (wr.heap.size + 1)) : RB w w' r cs q3 q8 B j e wh v' (m + 1) ys p := by
  have low := h.vlow
  have hsz : (wr.alloc o).heap.size = wr.heap.size + 1 := Array.size_push _
  have pa : Pur wr (wr.alloc o) := (Pur.refl wr).alloc o
  have hbs := h.bsz
  refine ⟨(h.sc.pur pa).grown hg (fun b hb hm => by have := low b hb; have := h.low b hm; omega), (h.chg.alloc o).grown hg (fun b hb => .inr (by have := low b hb; have := h.new.2.2.2; omega)), hrow, fun b hb => ?_, ?_, ?_, h.low, h.l8, h.n8, h.n3, h.n38, ?_, h.new⟩
  · rcases hloc with e | e
    · exact low b (by rw [← e]; exact hb)
    · rw [e] at hb; cases hb; omega
  · exact (hg.block q8 (by have := bk_lt h.at_; omega) (fun e => by have := low q8 e.symm; have := h.l8; omega)).trans (bk_alloc h.at_ _)
  · exact (hg.block q3 (by have := bk_lt h.res; omega) (fun e => by have := low q3 e.symm; have := h.new.2.2.2.2; omega)).trans (bk_alloc h.res _)
  · have := hg.size; omega
end
/-- what the loop of Tokens holds -/
structure RG (w wr : World) (r : Ro) (cs : Cs) (q3 q8 B j : Nat) (st : St) (v : Value) (avs : List Value) (p : Nat × Nat) : Prop where
  base : RB w wr r cs q3 q8 B j 0 (0, 0) v st.toks.length (tokCells avs (st.toks.map (Tok.fin cs))) p
  row : TokRow wr B v avs (st.toks.map (Tok.fin cs))
  bp : st.text ≠ [] → p = place cs (cs.length - st.began)
  tx : st.text.length ≤ j
  tk : st.toks.length ≤ 2 * j
section
variable {w wr w' : World} {r : Ro} {cs : Cs} {q3 q8 B j : Nat} {st : St} {v : Value} {avs : List Value} {p : Nat × Nat}
theorem RG.chgd (h : RG w wr r cs q3 q8 B j st v avs p) {j' : Nat} (hs : Sc w' r cs j' 0 (0, 0)) (hc : Chg [r.p] wr w') (hj : j ≤ j') : RG w w' r cs q3 q8 B j' st v avs p :=
  ⟨h.base.chgd hs hc, h.row.chg hc (fun b hb => by simp at hb; subst hb; exact h.base.low _ (by simp)), h.bp, Nat.le_trans h.tx hj, by have := h.tk; omega⟩
theorem RG.pur (h : RG w wr r cs q3 q8 B j st v avs p) (hp : Pur wr w') : RG w w' r cs q3 q8 B j st v avs p := h.chgd (h.base.sc.pur hp) (.of_pur hp) (Nat.le_refl _)
theorem RG.setat (h : RG w wr r cs q3 q8 B j st v avs p) (k : Nat) (u : Value) (p' : Nat × Nat) (hk : (#[Value.int .i64 (p.1 : Int), .int .i64 (p.2 : Int)]).setIfInBounds k u = #[.int .i64 (p'.1 : Int), .int .i64 (p'.2 : Int)]) (ht : st.text = []) : RG w (wr.setCell ⟨q8, k, none⟩ u) r cs q3 q8 B j st v avs p' :=
  ⟨h.base.setat k u p' hk, h.row.chg (S := [q8]) ((Chg.refl _ wr).setCell (.inl (by simp)) _) (fun b hb => by simp at hb; subst hb; exact h.base.l8), fun g => absurd ht g, h.tx, h.tk⟩
theorem RG.say (h : RG w wr r cs q3 q8 B j st v avs p) (st' : St) (e : st'.toks = st.toks) (hb : st'.text ≠ [] → p = place cs (cs.length - st'.began)) (ht : st'.text.length ≤ j) : RG w wr r cs q3 q8 B j st' v avs p :=
  ⟨by rw [e]; exact h.base, by rw [e]; exact h.row, hb, ht, by rw [e]; exact h.tk⟩
theorem RG.push (h : RG w wr r cs q3 q8 B j st v avs p) {o : Obj} (hg : (wr.alloc o).grownBy w' v.ownBlock) (v' av : Value) (x : Tok) (st' : St)
    (hrow : w'.ownsRow 0 38 7 v' (st.toks.length + 1) (tokCells avs (st.toks.map (Tok.fin cs)) ++ (x.fin cs).cells av)) (hloc : v'.ownBlock = v.ownBlock ∨ v'.ownBlock = some (wr.heap.size + 1))
    (hav : wr.ownsRow B 40 4 av x.attrs.length ((x.attrs.map (Attr.fin cs)).flatMap AttrV.cells)) (hav2 : ∀ g, av.ownBlock = some g → g ∉ v.ownBlock.toList ++ avs.flatMap (fun v => v.ownBlock.toList))
    (e : st'.toks = st.toks ++ [x]) (he : st'.text = []) (hk : st'.toks.length ≤ 2 * j) : RG w w' r cs q3 q8 B j st' v' (avs ++ [av]) p := by
  have e2 : tokCells (avs ++ [av]) (st'.toks.map (Tok.fin cs)) = tokCells avs (st.toks.map (Tok.fin cs)) ++ (x.fin cs).cells av := by
    rw [e, List.map_append]
    exact tokCells_snoc _ _ _ _ h.row.len
  have e3 : st'.toks.length = st.toks.length + 1 := by rw [e]; simp
  refine ⟨?_, ?_, fun g => absurd he g, by rw [he]; simp, hk⟩
  · rw [e2, e3]
    exact h.base.push hg v' _ hrow hloc
  · rw [e, List.map_append]
    exact h.row.push hg v' av (x.fin cs) (by rw [List.length_map]; exact hrow) hloc h.base.bsz (by simpa [Tok.fin] using hav) hav2
end
theorem chunkGo_tl : ∀ (f : Nat) (xs t q : Cs), chunkGo f xs = .ok (t, q) → t.length + q.length ≤ xs.length
  | 0, xs, t, q, h => by rw [chunkGo] at h; cases h
  | f + 1, [], t, q, h => by rw [chunkGo] at h; cases h; simp
  | f + 1, c :: r, t, q, h => by
    rw [chunkGo] at h
    split at h
    · cases h; simp
    split at h
    · cases h
    split at h
    · rcases hr : reference (c :: r) with e | ⟨v, y⟩
      · rw [hr] at h; cases h
      · rw [hr] at h
        have := (ref_ok hr).2
        simp only [and_ok] at h
        rcases hg : chunkGo f y with e | ⟨a, z⟩
        · rw [hg] at h; cases h
        · rw [hg] at h; cases h
          have := chunkGo_tl f y a q hg
          simp only [List.length_cons] at *
          omega
    · rcases hg : chunkGo f r with e | ⟨a, z⟩
      · rw [hg] at h; cases h
      · rw [hg] at h; cases h
        have := chunkGo_tl f r a q hg
        simp only [List.length_cons] at *
        omega
theorem until_tl {t : List Nat} (ht : t ≠ []) {xs a q : Cs} (h : untilT t xs = .ok (a, q)) : a.length + q.length + t.length = xs.length := by
  have := (until_ext t ht xs a q h).1
  rw [this]; simp; omega
theorem narrow_ne {cs : Cs} (h : cs ≠ []) : (narrow cs).isEmpty = false := by
  cases cs with
  | nil => exact absurd rfl h
  | cons c r =>
    obtain ⟨b, m, e⟩ := enc_cons c
    rw [show narrow (c :: r) = enc c ++ narrow r by simp [narrow], e]
    rfl
theorem pre_one (c : Nat) (xs : Cs) : pre [c] xs = hd (fun x => x == c) xs := by
  cases xs with
  | nil => rfl
  | cons x r =>
    rw [pre_cons, pre_nil, Bool.and_true, Bool.eq_iff_iff]
    simp only [hd, decide_eq_true_eq, beq_iff_eq]
theorem TokRow.down {w : World} {B B' : Nat} {v : Value} {avs : List Value} {ts : List TokV} (h : TokRow w B v avs ts) (hb : B' ≤ B) : TokRow w B' v avs ts :=
  ⟨h.toks, h.len, h.attrs, h.apart, fun b hm => Nat.le_trans hb (h.low b hm)⟩
theorem narrow_app (a b : Cs) : narrow (a ++ b) = narrow a ++ narrow b := by simp [narrow]
section
variable {w wr w' : World} {r : Ro} {cs : Cs} {q3 q8 B j j' : Nat} {st : St} {v : Value} {avs : List Value} {p : Nat × Nat}
theorem RG.say_on (h : RG w wr r cs q3 q8 B j st v avs p) (hx : st.text ≠ []) (n : Nat) (t : Cs) (ht : st.text.length + t.length ≤ j) : RG w wr r cs q3 q8 B j ((st.begin n).say t) v avs p := by
  have e : (st.begin n).say t = ⟨st.toks, st.text ++ t, st.began⟩ := by unfold St.begin St.say; rw [if_neg hx]
  rw [e]
  exact h.say _ rfl (fun _ => h.bp hx) (by simpa using ht)
theorem RG.say_new (h : RG w wr r cs q3 q8 B j' st v avs p) (hx : st.text = []) (hj : j ≤ cs.length) (t : Cs) (hp : t ≠ [] → p = place cs j) (ht : t.length ≤ j') : RG w wr r cs q3 q8 B j' ((st.begin (cs.length - j)).say t) v avs p := by
  have e : (st.begin (cs.length - j)).say t = ⟨st.toks, t, cs.length - j⟩ := by unfold St.begin St.say; rw [if_pos hx]; simp [hx]
  rw [e]
  exact h.say _ rfl (fun g => by rw [show cs.length - (cs.length - j) = j by omega]; exact hp g) ht
theorem say_text (st : St) (n : Nat) (t : Cs) : ((st.begin n).say t).text = st.text ++ t := by unfold St.begin St.say; split <;> rfl
end
/-- how Tokens ends -/
def RToks (w : World) (q : Except ((Nat × Nat) × Nat) (List TokV)) (e : Ending) (w' : World) : Prop := Pur w w' ∧ match q with
  | .ok ts => ∃ v avs, e = .returned (.tuple #[v, .agg #[.int .i64 0, .int .i64 0], .int .i64 0]) ∧ TokRow w' w.heap.size v avs ts
  | .error (pos, n) => e = .returned (.tuple #[.slice none 0 0, .agg #[.int .i64 (pos.1 : Int), .int .i64 (pos.2 : Int)], .int .i64 (n : Int)]) ∧ n ≠ 0
end Tk
end Go.Proofs.YtaknfofppknloaaGreatDoor
namespace Go.Proofs.YtaknfofppknloaaGreatDoor
open Go Go.RowKit
set_option linter.all false
namespace Tk
set_option maxRecDepth 100000 in
set_option maxHeartbeats 64000000 in
theorem rtokens_good (l : List UInt8) (w : World) (hlong : ¬ 65536 < l.length) (hr : (read l).2 = 0) : Calls Tryz.prog 6 #[.string ⟨l.toArray⟩] w fun e w' => RToks w (whole l) e w' := by
  obtain ⟨cs, hcs⟩ : ∃ cs, (read l).1 = cs := ⟨_, rfl⟩
  have HW := Lib.hid (show whole l = (match tokens cs with
    | .ok ts => .ok (ts.map (Tok.fin cs))
    | .error (k, e) => .error (place cs (cs.length - k), e)) by unfold whole; rw [if_neg hlong, if_neg (by rw [hr]; simp), hcs]; rfl)
  have HE : ∀ w0 e w', RRead w0 l e w' → ∃ r : Ro, e = .returned (.pointer (some ⟨r.p, 0, none⟩)) ∧ Pur w0 w' ∧ w0.heap.size ≤ r.p ∧ Sc w' r cs 0 0 (0, 0) := by
    rintro w0 e w' ⟨p, e1, e2, e3, e4⟩
    rw [if_neg hlong, if_pos hr] at e4
    obtain ⟨r, rfl, hs⟩ := e4
    exact ⟨r, e1, e2, e3, hcs ▸ hs⟩
  have RD := fun w => rread_any l w
  have hHT := Lib.hid (show tokens cs = (decl cs).and fun _ xs => allGo (xs.length + 1) xs ⟨[], [], 0⟩ from rfl)
  clear hlong hr hcs
  go_enter Tryz.func6, Tryz.ntmps6
  go_wp2_with fail
  refine (RD _).mono ?_
  intro e w1 hrd
  obtain ⟨r, rfl, p1, hp, S1⟩ := HE _ _ _ hrd
  clear hrd HE RD
  have hs1 : (w.alloc (.cells #[.int .i64 0, .int .i64 0] 29)).heap.size = w.heap.size + 1 := Array.size_push _
  rw [hs1] at hp
  have K1 : w1.heap[w.heap.size]? = some (.cells #[.int .i64 0, .int .i64 0] 29 (0, 0)) := bk_pur (bk_new _ _) p1
  have P1 : Pur w w1 := ((Pur.refl w).alloc _).trans p1
  have c4 := S1.c4
  have DC : Calls Tryz.prog 12 #[.pointer (some ⟨r.p, 0, none⟩)] w1 fun e w2 => e = .returned (.tuple #[]) ∧ Chg [r.p] w1 w2 ∧
      ((∃ i2, i2 ≤ cs.length ∧ Sc w2 r cs i2 0 (0, 0) ∧ Hid (tokens cs = allGo ((cs.drop i2).length + 1) (cs.drop i2) ⟨[], [], 0⟩)) ∨
       (∃ j k n, n ≠ 0 ∧ Sc w2 r cs j n (place cs (cs.length - k)) ∧ Hid (tokens cs = .error (k, n)))) := by
    refine (rdecl_any S1).mono ?_
    intro e w2 he
    rcases hd0 : decl cs with ⟨k, n⟩ | ⟨u, xs⟩
    · rw [hd0] at he
      obtain ⟨⟨_, rfl, rfl⟩, j, b1, b2, hn, S2, g2⟩ := he
      exact ⟨rfl, g2, .inr ⟨j, k, n, hn, S2, Lib.hid (by rw [hHT.out, hd0]; rfl)⟩⟩
    · rw [hd0] at he
      obtain ⟨rfl, j, a1, b1, b2, S2, g2⟩ := he
      exact ⟨rfl, g2, .inl ⟨j, b2, S2, Lib.hid (by rw [hHT.out, hd0, a1]; rfl)⟩⟩
  go_wp2_with fail
  refine DC.mono ?_
  rintro e w2 ⟨rfl, g2, hor⟩
  clear DC hHT c4
  have hrp : r.p < w1.heap.size := S1.lt
  have hSl := S1.all_lt
  have hw1 := P1.size
  have hg2 := g2.size
  have K2 := bk_chg K1 g2 (by simp; omega)
  have G2 : Chg [r.p] w w2 := (Chg.of_pur P1).trans g2
  obtain ⟨W3, hW3⟩ : ∃ W3, W3 = w2.alloc (.cells #[.int .i64 0, .int .i64 0] 29) := ⟨_, rfl⟩
  have p3 : Pur w2 W3 := by rw [hW3]; exact (Pur.refl _).alloc _
  have A3 : W3.heap[w2.heap.size]? = some (.cells #[.int .i64 0, .int .i64 0] 29 (0, 0)) := by rw [hW3]; exact bk_new _ _
  have s3 : W3.heap.size = w2.heap.size + 1 := by rw [hW3]; exact Array.size_push _
  have G3 := G2.pur p3
  have K3 := bk_pur K2 p3
  have B0 : ∀ j e wh, Sc w2 r cs j e wh → RB w W3 r cs w.heap.size w2.heap.size (w2.heap.size + 1) j e wh (.slice none 0 0) 0 [] (0, 0) := fun j e wh hs =>
    ⟨hs.pur p3, G3.mono (fun b hb => .inl (by simp at hb; simp [hb])), World.ownsRow_nil _ _ _ _, by simp [Value.ownBlock], A3, K3, fun b hb => by have := hSl b hb; omega, by omega, fun hb => by have := hSl _ hb; omega, by omega, by omega, by omega, ⟨by omega, by omega, by omega, by omega, by omega⟩⟩
  clear S1 hSl hrp K1 K2 K3 A3 G2 G3 p3 s3 g2 p1 P1 hs1 hp hg2 hw1
  go_wp2
  rw [← hW3]
  clear hW3
  generalize w2.heap.size = q8 at *
  obtain ⟨q3, hq3⟩ : ∃ q3, w.heap.size = q3 := ⟨_, rfl⟩
  rw [hq3] at B0
  simp only [hq3]
  go_loopw [6, 7] (fun v s wr => (∃ (j f : Nat) (st : St) (avs : List Value) (p : Nat × Nat), RG w wr r cs q3 q8 (q8 + 1) j st v avs p ∧ s = .string ⟨(narrow st.text).toArray⟩ ∧ j ≤ cs.length ∧ cs.length < j + f ∧ Hid (tokens cs = allGo f (cs.drop j) st)) ∨
    (∃ (j k n : Nat) (m : Nat) (xs : List Value) (p : Nat × Nat), n ≠ 0 ∧ RB w wr r cs q3 q8 (q8 + 1) j n (place cs (cs.length - k)) v m xs p ∧ Hid (tokens cs = .error (k, n)))) (fun _ _ wr => if natAt wr ⟨r.p, 4, none⟩ = 0 then cs.length + 2 - natAt wr ⟨r.p, 3, none⟩ else 0)
  case atStart =>
    rcases hor with ⟨i2, h1, S2, H⟩ | ⟨j, k, n, hn, S2, H⟩
    · exact .inl ⟨i2, (cs.drop i2).length + 1, ⟨[], [], 0⟩, [], (0, 0), ⟨B0 _ _ _ S2, ⟨World.ownsRow_nil _ _ _ _, rfl, by simp, by simp [Value.ownBlock], by simp [Value.ownBlock]⟩, by simp, by simp, by simp⟩, rfl, h1, by rw [List.length_drop]; omega, H⟩
    · exact .inr ⟨j, k, n, 0, [], (0, 0), hn, B0 _ _ _ S2, H⟩
  case round =>
    clear hor B0
    rcases hrel with ⟨j, f, st, avs, p, K, rfl, j2, jf, H⟩ | ⟨j, k, n, m, xs, p, hn, K, H⟩
    · obtain ⟨f, rfl⟩ : ∃ g, f = g + 1 := ⟨f - 1, by omega⟩
      have hcl := K.base.sc.clen
      have e3 := K.base.sc.nat
      have e4 := K.base.sc.err
      have htx := K.tx
      have htk := K.tk
      have hgo := allGo.eq_2 (cs.drop j) st f
      rw [show tDoctype = [60, 33, 68, 79, 67, 84, 89, 80, 69] from rfl, show tCdata = [60, 33, 91, 67, 68, 65, 84, 65, 91] from rfl] at hgo
      obtain ⟨ca, cc, hcv, -, -, -⟩ := K.base.sc.cshape
      have C1 : ∀ x : PW wr, x.to.cell? ⟨r.p, 1, none⟩ = some (.slice ca cs.length cc) := fun x => hcv ▸ (K.base.sc.pur x.pur).c1
      have C3 : ∀ x : PW wr, x.to.cell? ⟨r.p, 3, none⟩ = some (.int .i64 (j : Int)) := fun x => (K.base.sc.pur x.pur).c3
      have C4 : ∀ x : PW wr, x.to.cell? ⟨r.p, 4, none⟩ = some (.int .i64 0) := fun x => (K.base.sc.pur x.pur).c4
      obtain ⟨va, vc, rfl⟩ := row_shape K.base.own
      by_cases hend : cs.drop j = []
      · rw [if_pos hend] at hgo
        have HS := Lib.hid (H.out.trans hgo)
        have hjl' : ¬ (j : Int) < cs.length := by
          have : (cs.drop j).length = 0 := by rw [hend]; rfl
          rw [List.length_drop] at this; omega
        clear H hgo hend hcv
        go_wp2
        refine wp_region_pur (by kernel_rfl) (by kernel_rfl) ?_
        repeat (go_big_quiet_step (fail))
        refine wpQuiet_nil ?_
        intro wq hq
        have k4 := K.pur hq
        have c4 := k4.base.sc.c4
        have f0 := bk_free k4.base.res 0
        have f1 := bk_free k4.base.res 1
        have y0 := bk_cell k4.base.res 0 _ rfl
        have y1 := bk_cell k4.base.res 1 _ rfl
        clear C1 C3 C4
        by_cases ht : st.text = []
        · have HS2 := Lib.hid (show tokens cs = .ok st.toks by rw [HS.out]; unfold St.flush; rw [if_pos ht])
          have hE : narrow st.text = [] := by rw [ht]; rfl
          rw [hE]
          have GF := (k4.base.chg.setCell (a := ⟨q3, 0, none⟩) (.inr k4.base.new.1) (.int .i64 0)).setCell (a := ⟨q3, 1, none⟩) (.inr k4.base.new.1) (.int .i64 0)
          have KF := bk_set (bk_set k4.base.res 0 (.int .i64 0)) 1 (.int .i64 0)
          have RF := k4.row.chg (S := [q3]) (((Chg.refl _ wq).setCell (a := ⟨q3, 0, none⟩) (.inl (by simp)) (.int .i64 0)).setCell (a := ⟨q3, 1, none⟩) (.inl (by simp)) (.int .i64 0)) (fun b hb => by simp at hb; subst hb; exact k4.base.new.2.2.2.2)
          have hlw := k4.base.new
          clear hE ht HS
          go_wp2
          (try simp only [Exit.inBlock, Exit.then])
          refine bodyPost_ret (results_tct rfl _ _ q3 29 _ (0, 0) _ rfl (by simpa using KF) Tryz.underlying29 rfl (by kernel_rfl)) rfl ?_
          refine ⟨GF.to_pur (fun b hb => by simp at hb; rcases hb with rfl | rfl <;> omega), ?_⟩
          rw [HW.out, HS2.out]
          exact ⟨_, avs, rfl, RF.down hlw.2.2.2.1⟩
        · have HS2 := Lib.hid (show tokens cs = .ok (st.toks ++ [⟨3, [], [], st.text, st.began, false⟩]) by rw [HS.out]; unfold St.flush; rw [if_neg ht])
          have hE := narrow_ne ht
          have hbp := Lib.hid (K.bp ht)
          have a0 := bk_cell k4.base.at_ 0 _ rfl
          have a1 := bk_cell k4.base.at_ 1 _ rfl
          obtain ⟨tx, htx'⟩ : ∃ tx, narrow st.text = tx := ⟨_, rfl⟩
          rw [htx'] at hE ⊢
          replace htx' := Lib.hid htx'
          clear HS ht
          go_wp2_with (at_builtin; refine append_new wq rfl _ _ 23 38 7 88 tok_info Tryz.underlying23 (by decide) (by decide) (by rfl) 0 _ st.toks.length _ _ _ [.int .i64 3, .string ⟨#[]⟩, .slice none 0 0, .string ⟨tx.toArray⟩, .int .i64 (p.1 : Int), .int .i64 (p.2 : Int), .bool false] rfl ?c11 (by rfl) wq.heap.size (by simp [World.setCell]) (by rfl) k4.base.own (by omega) (Nat.zero_le _) ?_)
          case c11 => intro u hu; simp only [List.mem_cons, List.not_mem_nil, or_false] at hu; rcases hu with rfl | rfl | rfl | rfl | rfl | rfl | rfl <;> rfl
          intro v11 w11 hown11 hg11 hloc11
          have KB11 := k4.base.push hg11 _ _ hown11 hloc11
          have KR11 := k4.row.push hg11 _ (.slice none 0 0) ((⟨3, [], [], st.text, st.began, false⟩ : Tok).fin cs) (by
            have : ((⟨3, [], [], st.text, st.began, false⟩ : Tok).fin cs).cells (.slice none 0 0) = [.int .i64 3, .string ⟨#[]⟩, .slice none 0 0, .string ⟨tx.toArray⟩, .int .i64 (p.1 : Int), .int .i64 (p.2 : Int), .bool false] := by rw [hbp.out]; simp [Tok.fin, TokV.cells, htx'.out, narrow_nil']
            rw [this, List.length_map]; exact hown11) hloc11 k4.base.bsz (World.ownsRow_nil _ _ _ _) (by simp [Value.ownBlock])
          obtain ⟨va', vc', rfl⟩ := row_shape hown11
          have f0 := bk_free KB11.res 0
          have f1 := bk_free KB11.res 1
          have y0 := bk_cell KB11.res 0 _ rfl
          have y1 := bk_cell KB11.res 1 _ rfl
          have GF := (KB11.chg.setCell (a := ⟨q3, 0, none⟩) (.inr KB11.new.1) (.int .i64 0)).setCell (a := ⟨q3, 1, none⟩) (.inr KB11.new.1) (.int .i64 0)
          have KF := bk_set (bk_set KB11.res 0 (.int .i64 0)) 1 (.int .i64 0)
          have RF := KR11.chg (S := [q3]) (((Chg.refl _ w11).setCell (a := ⟨q3, 0, none⟩) (.inl (by simp)) (.int .i64 0)).setCell (a := ⟨q3, 1, none⟩) (.inl (by simp)) (.int .i64 0)) (fun b hb => by simp at hb; subst hb; exact KB11.new.2.2.2.2)
          have hlw := KB11.new
          clear hg11 hown11 a0 a1 hE
          go_wp2
          (try simp only [Exit.inBlock, Exit.then])
          refine bodyPost_ret (results_tct rfl _ _ q3 29 _ (0, 0) _ rfl (by simpa using KF) Tryz.underlying29 rfl (by kernel_rfl)) rfl ?_
          refine ⟨GF.to_pur (fun b hb => by simp at hb; rcases hb with rfl | rfl <;> omega), ?_⟩
          rw [HW.out, HS2.out]
          exact ⟨_, _, rfl, by simpa using RF.down hlw.2.2.2.1⟩
      rw [if_neg hend] at hgo
      have hjl : j < cs.length := by
        rcases Nat.lt_or_ge j cs.length with g | g
        · exact g
        · exact absurd (List.drop_of_length_le g) hend
      have hjl' : (j : Int) < cs.length := by omega
      clear hend hcv
      go_wp2
      refine wp_region_pur (by kernel_rfl) (by kernel_rfl) ?_
      repeat (go_big_quiet_step (fail))
      refine wpQuiet_nil ?_
      intro wq hq
      have k0 := K.pur hq
      have c2 := k0.base.sc.c2
      have c3 := k0.base.sc.c3
      obtain ⟨ga, gc, hav, hgc, hga, hsp⟩ := k0.base.sc.ashape
      rw [hav] at c2
      obtain ⟨s0, s1⟩ := hsp j (by omega)
      have hi1' : (j : Int) < (cs.length : Int) + 1 := by omega
      have hxa := (Pur.refl wq).alloc (.cells #[.int .i64 0, .int .i64 0] 29)
      have z2 := c2
      have z3 := c3
      have zs0 := s0
      have zs1 := s1
      rw [← hxa.cell (by exact k0.base.sc.lt)] at z2 z3
      rw [← hxa.cell (by exact hga)] at zs0 zs1
      clear hsp C1 C3 C4 hav
      go_wp2
      go_region
      obtain ⟨w5, hw5⟩ : ∃ w5, w5 = (wq.alloc (.cells #[.int .i64 ((place cs j).1 : Int), .int .i64 ((place cs j).2 : Int)] 29)).drew := ⟨_, rfl⟩
      have p5 : Pur wq w5 := by rw [hw5]; exact ((Pur.refl _).alloc _).drew
      have F5 : w5.heap[wq.heap.size]? = some (.cells #[.int .i64 ((place cs j).1 : Int), .int .i64 ((place cs j).2 : Int)] 29 (0, 0)) := by rw [hw5]; exact bk_new _ _
      rw [← hw5]
      clear hw5
      have k5 := k0.pur p5
      have n9 : wq.heap.size ≠ r.p := by have := k0.base.sc.lt; omega
      generalize wq.heap.size = q9 at *
      have hnl := narrow_len st.text
      clear hxa z2 z3 zs0 zs1 c2 s0 s1 c3 k0 hq p5 hi1' K
      have H1 : ∀ w', Pur w5 w' → Calls Tryz.prog 13 #[.pointer (some ⟨r.p, 0, none⟩), .string ⟨#[60, 63]⟩] w' fun e w'' => e = .returned (.bool (pre [60, 63] (cs.drop j))) ∧ Pur w' w'' := fun w' hp => here_any (k5.base.sc.pur hp) [60, 63] (by omega) (by decide)
      have H2 : ∀ w', Pur w5 w' → Calls Tryz.prog 13 #[.pointer (some ⟨r.p, 0, none⟩), .string ⟨#[60, 33, 45, 45]⟩] w' fun e w'' => e = .returned (.bool (pre [60, 33, 45, 45] (cs.drop j))) ∧ Pur w' w'' := fun w' hp => here_any (k5.base.sc.pur hp) [60, 33, 45, 45] (by omega) (by decide)
      have H3 : ∀ w', Pur w5 w' → Calls Tryz.prog 13 #[.pointer (some ⟨r.p, 0, none⟩), .string ⟨#[60, 33, 91, 67, 68, 65, 84, 65, 91]⟩] w' fun e w'' => e = .returned (.bool (pre [60, 33, 91, 67, 68, 65, 84, 65, 91] (cs.drop j))) ∧ Pur w' w'' := fun w' hp => here_any (k5.base.sc.pur hp) [60, 33, 91, 67, 68, 65, 84, 65, 91] (by omega) (by decide)
      have H4 : ∀ w', Pur w5 w' → Calls Tryz.prog 13 #[.pointer (some ⟨r.p, 0, none⟩), .string ⟨#[60, 33, 68, 79, 67, 84, 89, 80, 69]⟩] w' fun e w'' => e = .returned (.bool (pre [60, 33, 68, 79, 67, 84, 89, 80, 69] (cs.drop j))) ∧ Pur w' w'' := fun w' hp => here_any (k5.base.sc.pur hp) [60, 33, 68, 79, 67, 84, 89, 80, 69] (by omega) (by decide)
      have H5 : ∀ w', Pur w5 w' → Calls Tryz.prog 13 #[.pointer (some ⟨r.p, 0, none⟩), .string ⟨#[60, 33]⟩] w' fun e w'' => e = .returned (.bool (pre [60, 33] (cs.drop j))) ∧ Pur w' w'' := fun w' hp => here_any (k5.base.sc.pur hp) [60, 33] (by omega) (by decide)
      have H6 : ∀ w', Pur w5 w' → Calls Tryz.prog 13 #[.pointer (some ⟨r.p, 0, none⟩), .string ⟨#[60]⟩] w' fun e w'' => e = .returned (.bool (pre [60] (cs.drop j))) ∧ Pur w' w'' := fun w' hp => here_any (k5.base.sc.pur hp) [60] (by omega) (by decide)
      by_cases b1 : pre [60, 63] (cs.drop j) = true
      · rw [if_pos b1] at hgo
        rw [b1] at H1
        have RI := fun w' (hp : Pur w5 w') => rins_any (k5.base.sc.pur hp) b1
        clear b1
        rcases hr : instr (cs.drop j) with ⟨k, n⟩ | ⟨u, z⟩
        · rw [hr] at hgo RI
          simp only [and_error] at hgo
          have HS := Lib.hid (H.out.trans hgo)
          clear H hgo hr
          go_wp2_with fail
          refine (H1 _ (Pur.refl _)).mono ?_
          rintro e v1 ⟨rfl, y1⟩
          have P1 : Pur w5 v1 := y1
          have P := P1
          have kN := k5.pur P
          have FN := bk_pur F5 P
          clear H1 H2 H3 H4 H5 H6
          go_wp2_with fail
          refine (RI _ P).mono ?_
          rintro e w9 ⟨⟨_, rfl, rfl⟩, j', b1', b2', hn, S9, g9⟩
          clear RI
          have K9 := kN.base.chgd S9 g9
          have e9 := S9.err
          obtain ⟨tx, htx'⟩ : ∃ tx, narrow st.text = tx := ⟨_, rfl⟩
          rw [htx'] at hnl ⊢
          have z0 : ¬ 9223372036854775807 < tx.length := by omega
          replace htx' := Lib.hid htx'
          rcases hE : tx.isEmpty with _ | _
          all_goals
            go_wp2
            go_roundw
            case rel => exact .inr ⟨_, _, _, _, _, p, hn, K9, HS⟩
            case measure => rw [e9, e4, e3, if_neg hn, if_pos rfl]; omega
        · rw [hr] at hgo RI
          simp only [and_ok] at hgo
          have hlt := instr_lt hr
          have HS := Lib.hid (H.out.trans hgo)
          clear H hgo hr
          go_wp2_with fail
          refine (H1 _ (Pur.refl _)).mono ?_
          rintro e v1 ⟨rfl, y1⟩
          have P1 : Pur w5 v1 := y1
          have P := P1
          have kN := k5.pur P
          have FN := bk_pur F5 P
          clear H1 H2 H3 H4 H5 H6
          go_wp2_with fail
          refine (RI _ P).mono ?_
          rintro e w9 ⟨rfl, j', a1, b1', b2, S9, g9⟩
          rw [← a1, List.length_drop, List.length_drop] at hlt
          rw [← a1] at HS
          clear RI a1
          have K9 := kN.chgd S9 g9 (by omega)
          have e9 := S9.err
          have i9 := S9.nat
          obtain ⟨tx, htx'⟩ : ∃ tx, narrow st.text = tx := ⟨_, rfl⟩
          rw [htx'] at hnl ⊢
          have z0 : ¬ 9223372036854775807 < tx.length := by omega
          replace htx' := Lib.hid htx'
          rcases hE : tx.isEmpty with _ | _
          all_goals
            go_wp2
            go_roundw
            case rel => exact .inl ⟨j', f, st, avs, p, K9, by rw [htx'.out], b2, by omega, HS⟩
            case measure => rw [e9, i9, e4, e3, if_pos rfl, if_pos rfl]; omega
      replace b1 : pre [60, 63] (cs.drop j) = false := by simpa using b1
      rw [if_neg (by rw [b1]; simp)] at hgo
      rw [b1] at H1
      by_cases b2 : pre [60, 33, 45, 45] (cs.drop j) = true
      · rw [if_pos b2] at hgo
        rw [b2] at H2
        have RI := fun w' (hp : Pur w5 w') => rcom_any (k5.base.sc.pur hp) b2
        clear b2
        rcases hr : comment (cs.drop j) with ⟨k, n⟩ | ⟨u, z⟩
        · rw [hr] at hgo RI
          simp only [and_error] at hgo
          have HS := Lib.hid (H.out.trans hgo)
          clear H hgo hr
          go_wp2_with fail
          refine (H1 _ (Pur.refl _)).mono ?_
          rintro e v1 ⟨rfl, y1⟩
          have P1 : Pur w5 v1 := y1
          go_wp2_with fail
          refine (H2 _ P1).mono ?_
          rintro e v2 ⟨rfl, y2⟩
          have P2 : Pur w5 v2 := P1.trans y2
          have P := P2
          have kN := k5.pur P
          have FN := bk_pur F5 P
          clear H1 H2 H3 H4 H5 H6
          go_wp2_with fail
          refine (RI _ P).mono ?_
          rintro e w9 ⟨⟨_, rfl, rfl⟩, j', b1', b2', hn, S9, g9⟩
          clear RI
          have K9 := kN.base.chgd S9 g9
          have e9 := S9.err
          obtain ⟨tx, htx'⟩ : ∃ tx, narrow st.text = tx := ⟨_, rfl⟩
          rw [htx'] at hnl ⊢
          have z0 : ¬ 9223372036854775807 < tx.length := by omega
          replace htx' := Lib.hid htx'
          rcases hE : tx.isEmpty with _ | _
          all_goals
            go_wp2
            go_roundw
            case rel => exact .inr ⟨_, _, _, _, _, p, hn, K9, HS⟩
            case measure => rw [e9, e4, e3, if_neg hn, if_pos rfl]; omega
        · rw [hr] at hgo RI
          simp only [and_ok] at hgo
          have hlt := comment_lt hr
          have HS := Lib.hid (H.out.trans hgo)
          clear H hgo hr
          go_wp2_with fail
          refine (H1 _ (Pur.refl _)).mono ?_
          rintro e v1 ⟨rfl, y1⟩
          have P1 : Pur w5 v1 := y1
          go_wp2_with fail
          refine (H2 _ P1).mono ?_
          rintro e v2 ⟨rfl, y2⟩
          have P2 : Pur w5 v2 := P1.trans y2
          have P := P2
          have kN := k5.pur P
          have FN := bk_pur F5 P
          clear H1 H2 H3 H4 H5 H6
          go_wp2_with fail
          refine (RI _ P).mono ?_
          rintro e w9 ⟨rfl, j', a1, b1', b2, S9, g9⟩
          rw [← a1, List.length_drop, List.length_drop] at hlt
          rw [← a1] at HS
          clear RI a1
          have K9 := kN.chgd S9 g9 (by omega)
          have e9 := S9.err
          have i9 := S9.nat
          obtain ⟨tx, htx'⟩ : ∃ tx, narrow st.text = tx := ⟨_, rfl⟩
          rw [htx'] at hnl ⊢
          have z0 : ¬ 9223372036854775807 < tx.length := by omega
          replace htx' := Lib.hid htx'
          rcases hE : tx.isEmpty with _ | _
          all_goals
            go_wp2
            go_roundw
            case rel => exact .inl ⟨j', f, st, avs, p, K9, by rw [htx'.out], b2, by omega, HS⟩
            case measure => rw [e9, i9, e4, e3, if_pos rfl, if_pos rfl]; omega
      replace b2 : pre [60, 33, 45, 45] (cs.drop j) = false := by simpa using b2
      rw [if_neg (by rw [b2]; simp)] at hgo
      rw [b2] at H2
      by_cases b3 : pre [60, 33, 91, 67, 68, 65, 84, 65, 91] (cs.drop j) = true
      · rw [if_pos b3] at hgo
        rw [b3] at H3
        have hpl := pre_len' b3
        rw [List.length_drop] at hpl
        simp only [List.length_cons, List.length_nil] at hpl
        rw [List.drop_drop] at hgo
        clear b3
        rcases hr : untilT [93, 93, 62] (cs.drop (j + 9)) with ⟨k, n⟩ | ⟨t, z⟩
        · rw [hr] at hgo
          simp only [and_error] at hgo
          have HS := Lib.hid (H.out.trans hgo)
          clear H hgo
          go_wp2_with fail
          refine (H1 _ (Pur.refl _)).mono ?_
          rintro e v1 ⟨rfl, y1⟩
          have P1 : Pur w5 v1 := y1
          go_wp2_with fail
          refine (H2 _ P1).mono ?_
          rintro e v2 ⟨rfl, y2⟩
          have P2 : Pur w5 v2 := P1.trans y2
          go_wp2_with fail
          refine (H3 _ P2).mono ?_
          rintro e v3 ⟨rfl, y3⟩
          have P3 : Pur w5 v3 := P2.trans y3
          have P := P3
          have kN := k5.pur P
          have FN := bk_pur F5 P
          clear H1 H2 H3 H4 H5 H6
          have c3 := kN.base.sc.c3
          have f3 := kN.base.sc.f 3
          have wj : IntKind.i64.wrap ((j : Int) + 9) = (j : Int) + 9 := IntWalk.i64_in _ (by omega)
          have S8 := kN.base.sc.seti (j + 9) ((j : Int) + 9) (by omega)
          have g8 := Chg.seti r v3 3 (.int .i64 ((j : Int) + 9))
          have TO := rto_any S8 (by omega) [93, 93, 62] (by decide) (by decide)
          rw [show nats [93, 93, 62] = [93, 93, 62] from rfl, hr] at TO
          clear hr
          go_wp2_with fail
          refine TO.mono ?_
          rintro e w9 ⟨⟨_, rfl, ml, rfl, hml⟩, j', b1', b2', hn, S9, g9'⟩
          have g9 := g8.trans g9'
          clear TO g9' S8 c3 f3
          have K9 := kN.base.chgd S9 g9
          have e9 := S9.err
          have F9 := bk_chg FN g9 (by simp; exact n9)
          have o0 := bk_cell F9 0 _ rfl
          have o1 := bk_cell F9 1 _ rfl
          have a0 := bk_cell K9.at_ 0 _ rfl
          have a1 := bk_cell K9.at_ 1 _ rfl
          have f0 := bk_free K9.at_ 0
          have f1 := bk_free K9.at_ 1
          have KA := (K9.setat 0 (.int .i64 ((place cs j).1 : Int)) ((place cs j).1, p.2) (by simp)).setat 1 (.int .i64 ((place cs j).2 : Int)) (place cs j) (by simp)
          have eA := KA.sc.err
          obtain ⟨tx, htx'⟩ : ∃ tx, narrow st.text = tx := ⟨_, rfl⟩
          rw [htx'] at hnl ⊢
          have z0 : ¬ 9223372036854775807 < tx.length := by omega
          replace htx' := Lib.hid htx'
          have z1 : ¬ 9223372036854775807 < tx.length + ml.length := by omega
          have z2 : ¬ 9223372036854775807 < ml.length := by omega
          clear F9 FN
          rcases hE : tx.isEmpty with _ | _ <;> rcases hM : ml.isEmpty with _ | _
          all_goals
            go_wp2
            go_roundw
            case rel => first | exact .inr ⟨_, _, _, _, _, p, hn, K9, HS⟩ | exact .inr ⟨_, _, _, _, _, place cs j, hn, KA, HS⟩
            case measure => first | (rw [e9, e4, e3, if_neg hn, if_pos rfl]; omega) | (rw [eA, e4, e3, if_neg hn, if_pos rfl]; omega)
        · rw [hr] at hgo
          simp only [and_ok] at hgo
          have hlt := until_tl (by simp) hr
          rw [List.length_drop] at hlt
          have HS := Lib.hid (H.out.trans hgo)
          clear H hgo
          go_wp2_with fail
          refine (H1 _ (Pur.refl _)).mono ?_
          rintro e v1 ⟨rfl, y1⟩
          have P1 : Pur w5 v1 := y1
          go_wp2_with fail
          refine (H2 _ P1).mono ?_
          rintro e v2 ⟨rfl, y2⟩
          have P2 : Pur w5 v2 := P1.trans y2
          go_wp2_with fail
          refine (H3 _ P2).mono ?_
          rintro e v3 ⟨rfl, y3⟩
          have P3 : Pur w5 v3 := P2.trans y3
          have P := P3
          have kN := k5.pur P
          have FN := bk_pur F5 P
          clear H1 H2 H3 H4 H5 H6
          have c3 := kN.base.sc.c3
          have f3 := kN.base.sc.f 3
          have wj : IntKind.i64.wrap ((j : Int) + 9) = (j : Int) + 9 := IntWalk.i64_in _ (by omega)
          have S8 := kN.base.sc.seti (j + 9) ((j : Int) + 9) (by omega)
          have g8 := Chg.seti r v3 3 (.int .i64 ((j : Int) + 9))
          have TO := rto_any S8 (by omega) [93, 93, 62] (by decide) (by decide)
          rw [show nats [93, 93, 62] = [93, 93, 62] from rfl, hr] at TO
          clear hr
          go_wp2_with fail
          refine TO.mono ?_
          rintro e w9 ⟨rfl, j', a1, b1', b2, S9, g9'⟩
          have g9 := g8.trans g9'
          rw [← a1, List.length_drop] at hlt
          simp only [List.length_cons, List.length_nil] at hlt
          rw [← a1] at HS
          clear TO g9' S8 c3 f3 a1
          have K9 := kN.chgd S9 g9 (by omega)
          have e9 := S9.err
          have i9 := S9.nat
          have F9 := bk_chg FN g9 (by simp; exact n9)
          have o0 := bk_cell F9 0 _ rfl
          have o1 := bk_cell F9 1 _ rfl
          have a0 := bk_cell K9.base.at_ 0 _ rfl
          have a1 := bk_cell K9.base.at_ 1 _ rfl
          have f0 := bk_free K9.base.at_ 0
          have f1 := bk_free K9.base.at_ 1
          have hml := narrow_len t
          clear F9 FN
          by_cases ht : st.text = []
          · have hE : narrow st.text = [] := by rw [ht]; rfl
            rw [hE]
            rw [List.length_drop] at HS
            by_cases hm : t = []
            · have hM : narrow t = [] := by rw [hm]; rfl
              have KB := K9.say_new (j := j) ht (by omega) t (fun h => absurd hm h) (by rw [hm]; simp)
              clear hE
              go_wp2
              go_roundw
              case rel => exact .inl ⟨j', f, _, avs, p, KB, by rw [say_text, ht, hm]; rfl, b2, by omega, HS⟩
              case measure => rw [e9, i9, e4, e3, if_pos rfl, if_pos rfl]; omega
            · have hM := narrow_ne hm
              have KA := (K9.setat 0 (.int .i64 ((place cs j).1 : Int)) ((place cs j).1, p.2) (by simp) ht).setat 1 (.int .i64 ((place cs j).2 : Int)) (place cs j) (by simp) ht
              have eA := KA.base.sc.err
              have iA := KA.base.sc.nat
              have KB := KA.say_new (j := j) ht (by omega) t (fun _ => rfl) (by omega)
              have z2 : ¬ 9223372036854775807 < (narrow t).length := by omega
              clear hE hm
              go_wp2
              go_roundw
              case rel => exact .inl ⟨j', f, _, avs, place cs j, KB, by rw [say_text, ht, List.nil_append], b2, by omega, HS⟩
              case measure => rw [eA, iA, e4, e3, if_pos rfl, if_pos rfl]; omega
          · have hE := narrow_ne ht
            have KB := K9.say_on ht (cs.drop j).length t (by omega)
            obtain ⟨tx, htx'⟩ : ∃ tx, narrow st.text = tx := ⟨_, rfl⟩
            rw [htx'] at hE hnl ⊢
            have z1 : ¬ 9223372036854775807 < tx.length + (narrow t).length := by omega
            replace htx' := Lib.hid htx'
            clear ht
            go_wp2
            go_roundw
            case rel => exact .inl ⟨j', f, _, avs, p, KB, by rw [say_text, narrow_app, htx'.out], b2, by omega, HS⟩
            case measure => rw [e9, i9, e4, e3, if_pos rfl, if_pos rfl]; omega
      replace b3 : pre [60, 33, 91, 67, 68, 65, 84, 65, 91] (cs.drop j) = false := by simpa using b3
      rw [if_neg (by rw [b3]; simp)] at hgo
      rw [b3] at H3
      by_cases b4 : pre [60, 33, 68, 79, 67, 84, 89, 80, 69] (cs.drop j) = true
      · rw [if_pos b4] at hgo
        rw [b4] at H4
        have HS := Lib.hid (H.out.trans hgo)
        clear b4 H hgo
        go_wp2_with fail
        refine (H1 _ (Pur.refl _)).mono ?_
        rintro e v1 ⟨rfl, y1⟩
        have P1 : Pur w5 v1 := y1
        go_wp2_with fail
        refine (H2 _ P1).mono ?_
        rintro e v2 ⟨rfl, y2⟩
        have P2 : Pur w5 v2 := P1.trans y2
        go_wp2_with fail
        refine (H3 _ P2).mono ?_
        rintro e v3 ⟨rfl, y3⟩
        have P3 : Pur w5 v3 := P2.trans y3
        go_wp2_with fail
        refine (H4 _ P3).mono ?_
        rintro e v4 ⟨rfl, y4⟩
        have P4 : Pur w5 v4 := P3.trans y4
        have P := P4
        have kN := k5.pur P
        have FN := bk_pur F5 P
        clear H1 H2 H3 H4 H5 H6
        have c3 := kN.base.sc.c3
        have BO := bad_ok kN.base.sc j 23 (by omega)
        go_wp2_with fail
        refine BO.mono ?_
        rintro e w9 ⟨rfl, S9, g9⟩
        clear BO c3
        have hn : 23 ≠ 0 := by decide
        rw [List.length_drop] at HS
        rw [show j = cs.length - (cs.length - j) by omega] at S9

        have K9 := kN.base.chgd S9 g9
        have e9 := S9.err
        obtain ⟨tx, htx'⟩ : ∃ tx, narrow st.text = tx := ⟨_, rfl⟩
        rw [htx'] at hnl ⊢
        have z0 : ¬ 9223372036854775807 < tx.length := by omega
        replace htx' := Lib.hid htx'
        rcases hE : tx.isEmpty with _ | _
        all_goals
          go_wp2
          go_roundw
          case rel => exact .inr ⟨_, _, _, _, _, p, hn, K9, HS⟩
          case measure => rw [e9, e4, e3, if_neg hn, if_pos rfl]; omega
      replace b4 : pre [60, 33, 68, 79, 67, 84, 89, 80, 69] (cs.drop j) = false := by simpa using b4
      rw [if_neg (by rw [b4]; simp)] at hgo
      rw [b4] at H4
      by_cases b5 : pre [60, 33] (cs.drop j) = true
      · rw [if_pos b5] at hgo
        rw [b5] at H5
        have HS := Lib.hid (H.out.trans hgo)
        clear b5 H hgo
        go_wp2_with fail
        refine (H1 _ (Pur.refl _)).mono ?_
        rintro e v1 ⟨rfl, y1⟩
        have P1 : Pur w5 v1 := y1
        go_wp2_with fail
        refine (H2 _ P1).mono ?_
        rintro e v2 ⟨rfl, y2⟩
        have P2 : Pur w5 v2 := P1.trans y2
        go_wp2_with fail
        refine (H3 _ P2).mono ?_
        rintro e v3 ⟨rfl, y3⟩
        have P3 : Pur w5 v3 := P2.trans y3
        go_wp2_with fail
        refine (H4 _ P3).mono ?_
        rintro e v4 ⟨rfl, y4⟩
        have P4 : Pur w5 v4 := P3.trans y4
        go_wp2_with fail
        refine (H5 _ P4).mono ?_
        rintro e v5 ⟨rfl, y5⟩
        have P5 : Pur w5 v5 := P4.trans y5
        have P := P5
        have kN := k5.pur P
        have FN := bk_pur F5 P
        clear H1 H2 H3 H4 H5 H6
        have c3 := kN.base.sc.c3
        have BO := bad_ok kN.base.sc j 21 (by omega)
        go_wp2_with fail
        refine BO.mono ?_
        rintro e w9 ⟨rfl, S9, g9⟩
        clear BO c3
        have hn : 21 ≠ 0 := by decide
        rw [List.length_drop] at HS
        rw [show j = cs.length - (cs.length - j) by omega] at S9

        have K9 := kN.base.chgd S9 g9
        have e9 := S9.err
        obtain ⟨tx, htx'⟩ : ∃ tx, narrow st.text = tx := ⟨_, rfl⟩
        rw [htx'] at hnl ⊢
        have z0 : ¬ 9223372036854775807 < tx.length := by omega
        replace htx' := Lib.hid htx'
        rcases hE : tx.isEmpty with _ | _
        all_goals
          go_wp2
          go_roundw
          case rel => exact .inr ⟨_, _, _, _, _, p, hn, K9, HS⟩
          case measure => rw [e9, e4, e3, if_neg hn, if_pos rfl]; omega
      replace b5 : pre [60, 33] (cs.drop j) = false := by simpa using b5
      rw [if_neg (by rw [b5]; simp)] at hgo
      rw [b5] at H5
      by_cases b6 : hd (fun c => c == 60) (cs.drop j) = true
      · rw [if_pos b6] at hgo
        rw [pre_one, b6] at H6
        have TG := fun w' (hp : Pur w5 w') => rtag_any (k5.base.sc.pur hp) hjl
        clear b6
        rcases hr : tag (cs.drop j) with ⟨k, n⟩ | ⟨t, z⟩
        · rw [hr] at hgo TG
          simp only [and_error] at hgo
          have HS := Lib.hid (H.out.trans hgo)
          clear H hgo hr
          go_wp2_with fail
          refine (H1 _ (Pur.refl _)).mono ?_
          rintro e v1 ⟨rfl, y1⟩
          have P1 : Pur w5 v1 := y1
          go_wp2_with fail
          refine (H2 _ P1).mono ?_
          rintro e v2 ⟨rfl, y2⟩
          have P2 : Pur w5 v2 := P1.trans y2
          go_wp2_with fail
          refine (H3 _ P2).mono ?_
          rintro e v3 ⟨rfl, y3⟩
          have P3 : Pur w5 v3 := P2.trans y3
          go_wp2_with fail
          refine (H4 _ P3).mono ?_
          rintro e v4 ⟨rfl, y4⟩
          have P4 : Pur w5 v4 := P3.trans y4
          go_wp2_with fail
          refine (H5 _ P4).mono ?_
          rintro e v5 ⟨rfl, y5⟩
          have P5 : Pur w5 v5 := P4.trans y5
          go_wp2_with fail
          refine (H6 _ P5).mono ?_
          rintro e v6 ⟨rfl, y6⟩
          have P6 : Pur w5 v6 := P5.trans y6
          have P := P6
          have kN := k5.pur P
          have FN := bk_pur F5 P
          clear H1 H2 H3 H4 H5 H6
          go_wp2_with fail
          refine (TG _ P).mono ?_
          rintro e w9 ⟨⟨_, rfl, kk, ka, kb, nm, tx2, xa, xm, xc, em, rfl⟩, j', b1', b2', hn, S9, g9⟩
          clear TG
          have K9 := kN.base.chgd S9 g9
          have hge : True := trivial
          have htk2 := kN.tk
          have W10p : Pur w9 (w9.alloc (.cells #[.int .i64 kk, .string ⟨nm.toArray⟩, .slice xa xm xc, .string ⟨tx2.toArray⟩, .int .i64 ka, .int .i64 kb, .bool em] 38)) := (Pur.refl w9).alloc _
          have T10 := bk_new w9 (.cells #[.int .i64 kk, .string ⟨nm.toArray⟩, .slice xa xm xc, .string ⟨tx2.toArray⟩, .int .i64 ka, .int .i64 kb, .bool em] 38)
          have K10 := K9.pur W10p
          have hq11 : ∀ b, (Value.slice va st.toks.length vc).ownBlock = some b → b ≠ w9.heap.size := fun b hb e => by have := (K9.own.lt b hb).2; omega
          have hs9 : (w9.alloc (.cells #[.int .i64 kk, .string ⟨nm.toArray⟩, .slice xa xm xc, .string ⟨tx2.toArray⟩, .int .i64 ka, .int .i64 kb, .bool em] 38)).heap.size = w9.heap.size + 1 := Array.size_push _
          by_cases ht : st.text = []
          · skip
            have hE : narrow st.text = [] := by rw [ht]; rfl
            rw [hE]
            have t0 := bk_cell T10 0 (.int .i64 kk) rfl
            have t1 := bk_cell T10 1 (.string ⟨nm.toArray⟩) rfl
            have t2 := bk_cell T10 2 (.slice xa xm xc) rfl
            have t3 := bk_cell T10 3 (.string ⟨tx2.toArray⟩) rfl
            have t4 := bk_cell T10 4 (.int .i64 ka) rfl
            have t5 := bk_cell T10 5 (.int .i64 kb) rfl
            have t6 := bk_cell T10 6 (.bool em) rfl
            clear hE

            go_wp2_with (at_builtin; refine append_new (w9.alloc (.cells #[.int .i64 kk, .string ⟨nm.toArray⟩, .slice xa xm xc, .string ⟨tx2.toArray⟩, .int .i64 ka, .int .i64 kb, .bool em] 38)) rfl _ _ 23 38 7 88 tok_info Tryz.underlying23 (by decide) (by decide) (by rfl) 0 _ st.toks.length _ _ _ [.int .i64 kk, .string ⟨nm.toArray⟩, .slice xa xm xc, .string ⟨tx2.toArray⟩, .int .i64 ka, .int .i64 kb, .bool em] rfl ?c12 (by rfl) (w9.heap.size + 1) (Array.size_push _ |>.symm) (by rfl) K10.own (by omega) (Nat.zero_le _) ?_)
            case c12 => intro u hu; simp only [List.mem_cons, List.not_mem_nil, or_false] at hu; rcases hu with rfl | rfl | rfl | rfl | rfl | rfl | rfl <;> rfl
            intro v12 w12 hown12 hg12 hloc12
            rw [← hs9] at hloc12
            obtain ⟨va2, vc2, rfl⟩ := row_shape hown12
            have K12 := K10.push hg12 _ _ hown12 hloc12
            have e12 := K12.sc.err
            have i12 := K12.sc.nat
            go_wp2
            go_roundw
            case rel => exact .inr ⟨_, _, _, _, _, p, hn, K12, HS⟩
            case measure => rw [e12, e4, e3, if_neg hn, if_pos rfl]; omega

          · skip
            have hE := narrow_ne ht
            have hbp := Lib.hid (kN.bp ht)
            have a0 := bk_cell K10.at_ 0 _ rfl
            have a1 := bk_cell K10.at_ 1 _ rfl
            obtain ⟨tx, htx'⟩ : ∃ tx, narrow st.text = tx := ⟨_, rfl⟩
            rw [htx'] at hE hnl ⊢
            have z0 : ¬ 9223372036854775807 < tx.length := by omega
            replace htx' := Lib.hid htx'
            go_wp2_with (at_builtin; refine append_new (w9.alloc (.cells #[.int .i64 kk, .string ⟨nm.toArray⟩, .slice xa xm xc, .string ⟨tx2.toArray⟩, .int .i64 ka, .int .i64 kb, .bool em] 38)) rfl _ _ 23 38 7 88 tok_info Tryz.underlying23 (by decide) (by decide) (by rfl) 0 _ st.toks.length _ _ _ [.int .i64 3, .string ⟨#[]⟩, .slice none 0 0, .string ⟨tx.toArray⟩, .int .i64 (p.1 : Int), .int .i64 (p.2 : Int), .bool false] rfl ?c11 (by rfl) (w9.heap.size + 1) (Array.size_push _ |>.symm) (by rfl) K10.own (by omega) (Nat.zero_le _) ?_)
            case c11 => intro u hu; simp only [List.mem_cons, List.not_mem_nil, or_false] at hu; rcases hu with rfl | rfl | rfl | rfl | rfl | rfl | rfl <;> rfl
            intro v11 w11 hown11 hg11 hloc11
            rw [← hs9] at hloc11
            obtain ⟨va', vc', rfl⟩ := row_shape hown11
            have K11 := K10.push hg11 _ _ hown11 hloc11
            have hs10 := bk_lt T10
            have T11 := (hg11.block w9.heap.size (Nat.lt_of_lt_of_le hs10 ((Pur.refl _).alloc _).size) (fun e => hq11 _ e.symm rfl)).trans (bk_alloc T10 _)
            have t0 := bk_cell T11 0 (.int .i64 kk) rfl
            have t1 := bk_cell T11 1 (.string ⟨nm.toArray⟩) rfl
            have t2 := bk_cell T11 2 (.slice xa xm xc) rfl
            have t3 := bk_cell T11 3 (.string ⟨tx2.toArray⟩) rfl
            have t4 := bk_cell T11 4 (.int .i64 ka) rfl
            have t5 := bk_cell T11 5 (.int .i64 kb) rfl
            have t6 := bk_cell T11 6 (.bool em) rfl
            clear hE a0 a1
            go_wp2_with (at_builtin; refine append_new w11 rfl _ _ 23 38 7 88 tok_info Tryz.underlying23 (by decide) (by decide) (by rfl) 0 _ (st.toks.length + 1) _ _ _ [.int .i64 kk, .string ⟨nm.toArray⟩, .slice xa xm xc, .string ⟨tx2.toArray⟩, .int .i64 ka, .int .i64 kb, .bool em] rfl ?c12 (by rfl) w11.heap.size (by simp [World.setCell]) (by rfl) K11.own (by omega) (Nat.zero_le _) ?_)
            case c12 => intro u hu; simp only [List.mem_cons, List.not_mem_nil, or_false] at hu; rcases hu with rfl | rfl | rfl | rfl | rfl | rfl | rfl <;> rfl
            intro v12 w12 hown12 hg12 hloc12
            obtain ⟨va2, vc2, rfl⟩ := row_shape hown12
            have K12 := K11.push hg12 _ _ hown12 hloc12
            have e12 := K12.sc.err
            have i12 := K12.sc.nat
            go_wp2
            go_roundw
            case rel => exact .inr ⟨_, _, _, _, _, p, hn, K12, HS⟩
            case measure => rw [e12, e4, e3, if_neg hn, if_pos rfl]; omega
        · rw [hr] at hgo TG
          simp only [and_ok] at hgo
          have HS := Lib.hid (H.out.trans hgo)
          clear H hgo hr
          go_wp2_with fail
          refine (H1 _ (Pur.refl _)).mono ?_
          rintro e v1 ⟨rfl, y1⟩
          have P1 : Pur w5 v1 := y1
          go_wp2_with fail
          refine (H2 _ P1).mono ?_
          rintro e v2 ⟨rfl, y2⟩
          have P2 : Pur w5 v2 := P1.trans y2
          go_wp2_with fail
          refine (H3 _ P2).mono ?_
          rintro e v3 ⟨rfl, y3⟩
          have P3 : Pur w5 v3 := P2.trans y3
          go_wp2_with fail
          refine (H4 _ P3).mono ?_
          rintro e v4 ⟨rfl, y4⟩
          have P4 : Pur w5 v4 := P3.trans y4
          go_wp2_with fail
          refine (H5 _ P4).mono ?_
          rintro e v5 ⟨rfl, y5⟩
          have P5 : Pur w5 v5 := P4.trans y5
          go_wp2_with fail
          refine (H6 _ P5).mono ?_
          rintro e v6 ⟨rfl, y6⟩
          have P6 : Pur w5 v6 := P5.trans y6
          have P := P6
          have kN := k5.pur P
          have FN := bk_pur F5 P
          clear H1 H2 H3 H4 H5 H6
          go_wp2_with fail
          refine (TG _ P).mono ?_
          rintro e w9 ⟨_, rfl, hav, j', a1, b1', b2, S9, g9⟩
          obtain ⟨xa, xc, rfl⟩ := row_shape hav
          rw [show ((t.fin cs).cells (.slice xa t.attrs.length xc)).toArray = #[.int .i64 (t.kind : Int), .string ⟨(narrow t.nm).toArray⟩, .slice xa t.attrs.length xc, .string ⟨(narrow t.text).toArray⟩, .int .i64 ((place cs (cs.length - t.left)).1 : Int), .int .i64 ((place cs (cs.length - t.left)).2 : Int), .bool t.empty] from rfl]
          rw [← a1] at HS
          clear TG a1
          have KG9 := kN.chgd S9 g9 (by omega)
          have K9 := KG9.base
          have hge := kN.base.bsz
          have htk2 := kN.tk
          have W10p : Pur w9 (w9.alloc (.cells #[.int .i64 (t.kind : Int), .string ⟨(narrow t.nm).toArray⟩, .slice xa t.attrs.length xc, .string ⟨(narrow t.text).toArray⟩, .int .i64 ((place cs (cs.length - t.left)).1 : Int), .int .i64 ((place cs (cs.length - t.left)).2 : Int), .bool t.empty] 38)) := (Pur.refl w9).alloc _
          have T10 := bk_new w9 (.cells #[.int .i64 (t.kind : Int), .string ⟨(narrow t.nm).toArray⟩, .slice xa t.attrs.length xc, .string ⟨(narrow t.text).toArray⟩, .int .i64 ((place cs (cs.length - t.left)).1 : Int), .int .i64 ((place cs (cs.length - t.left)).2 : Int), .bool t.empty] 38)
          have K10 := K9.pur W10p
          have KG10 := KG9.pur W10p
          have hav10 := row_mono (row_pur hav W10p) hge
          have hq11 : ∀ b, (Value.slice va st.toks.length vc).ownBlock = some b → b ≠ w9.heap.size := fun b hb e => by have := (K9.own.lt b hb).2; omega
          have hav2 : ∀ g, (Value.slice xa t.attrs.length xc).ownBlock = some g → g ∉ (Value.slice va st.toks.length vc).ownBlock.toList ++ avs.flatMap (fun v => v.ownBlock.toList) := fun g hg hm => by
            have := (hav.lt g hg).1
            have := kN.row.own_lt g hm
            omega
          have fl := flush_len st
          have hs9 : (w9.alloc (.cells #[.int .i64 (t.kind : Int), .string ⟨(narrow t.nm).toArray⟩, .slice xa t.attrs.length xc, .string ⟨(narrow t.text).toArray⟩, .int .i64 ((place cs (cs.length - t.left)).1 : Int), .int .i64 ((place cs (cs.length - t.left)).2 : Int), .bool t.empty] 38)).heap.size = w9.heap.size + 1 := Array.size_push _
          by_cases ht : st.text = []
          · skip
            have hE : narrow st.text = [] := by rw [ht]; rfl
            rw [hE]
            have hfl : st.flush = st := by unfold St.flush; rw [if_pos ht]
            rw [hfl] at HS
            have t0 := bk_cell T10 0 (.int .i64 (t.kind : Int)) rfl
            have t1 := bk_cell T10 1 (.string ⟨(narrow t.nm).toArray⟩) rfl
            have t2 := bk_cell T10 2 (.slice xa t.attrs.length xc) rfl
            have t3 := bk_cell T10 3 (.string ⟨(narrow t.text).toArray⟩) rfl
            have t4 := bk_cell T10 4 (.int .i64 ((place cs (cs.length - t.left)).1 : Int)) rfl
            have t5 := bk_cell T10 5 (.int .i64 ((place cs (cs.length - t.left)).2 : Int)) rfl
            have t6 := bk_cell T10 6 (.bool t.empty) rfl
            clear hE

            go_wp2_with (at_builtin; refine append_new (w9.alloc (.cells #[.int .i64 (t.kind : Int), .string ⟨(narrow t.nm).toArray⟩, .slice xa t.attrs.length xc, .string ⟨(narrow t.text).toArray⟩, .int .i64 ((place cs (cs.length - t.left)).1 : Int), .int .i64 ((place cs (cs.length - t.left)).2 : Int), .bool t.empty] 38)) rfl _ _ 23 38 7 88 tok_info Tryz.underlying23 (by decide) (by decide) (by rfl) 0 _ st.toks.length _ _ _ [.int .i64 (t.kind : Int), .string ⟨(narrow t.nm).toArray⟩, .slice xa t.attrs.length xc, .string ⟨(narrow t.text).toArray⟩, .int .i64 ((place cs (cs.length - t.left)).1 : Int), .int .i64 ((place cs (cs.length - t.left)).2 : Int), .bool t.empty] rfl ?c12 (by rfl) (w9.heap.size + 1) (Array.size_push _ |>.symm) (by rfl) K10.own (by omega) (Nat.zero_le _) ?_)
            case c12 => intro u hu; simp only [List.mem_cons, List.not_mem_nil, or_false] at hu; rcases hu with rfl | rfl | rfl | rfl | rfl | rfl | rfl <;> rfl
            intro v12 w12 hown12 hg12 hloc12
            rw [← hs9] at hloc12
            obtain ⟨va2, vc2, rfl⟩ := row_shape hown12
            have K12 := K10.push hg12 _ _ hown12 hloc12
            have e12 := K12.sc.err
            have i12 := K12.sc.nat
            have KG12 := KG10.push hg12 _ _ t ⟨st.toks ++ [t], [], st.began⟩ hown12 hloc12 hav10 hav2 rfl rfl (by simp; omega)
            go_wp2
            go_roundw
            case rel => exact .inl ⟨j', f, _, _, p, KG12, rfl, b2, by omega, HS⟩
            case measure => rw [e12, i12, e4, e3, if_pos rfl, if_pos rfl]; omega

          · skip
            have hE := narrow_ne ht
            have hbp := Lib.hid (kN.bp ht)
            have a0 := bk_cell K10.at_ 0 _ rfl
            have a1 := bk_cell K10.at_ 1 _ rfl
            have hfl : st.flush.toks = st.toks ++ [⟨3, [], [], st.text, st.began, false⟩] := by unfold St.flush; rw [if_neg ht]
            rw [hfl] at HS
            obtain ⟨tx, htx'⟩ : ∃ tx, narrow st.text = tx := ⟨_, rfl⟩
            rw [htx'] at hE hnl ⊢
            have z0 : ¬ 9223372036854775807 < tx.length := by omega
            replace htx' := Lib.hid htx'
            go_wp2_with (at_builtin; refine append_new (w9.alloc (.cells #[.int .i64 (t.kind : Int), .string ⟨(narrow t.nm).toArray⟩, .slice xa t.attrs.length xc, .string ⟨(narrow t.text).toArray⟩, .int .i64 ((place cs (cs.length - t.left)).1 : Int), .int .i64 ((place cs (cs.length - t.left)).2 : Int), .bool t.empty] 38)) rfl _ _ 23 38 7 88 tok_info Tryz.underlying23 (by decide) (by decide) (by rfl) 0 _ st.toks.length _ _ _ [.int .i64 3, .string ⟨#[]⟩, .slice none 0 0, .string ⟨tx.toArray⟩, .int .i64 (p.1 : Int), .int .i64 (p.2 : Int), .bool false] rfl ?c11 (by rfl) (w9.heap.size + 1) (Array.size_push _ |>.symm) (by rfl) K10.own (by omega) (Nat.zero_le _) ?_)
            case c11 => intro u hu; simp only [List.mem_cons, List.not_mem_nil, or_false] at hu; rcases hu with rfl | rfl | rfl | rfl | rfl | rfl | rfl <;> rfl
            intro v11 w11 hown11 hg11 hloc11
            rw [← hs9] at hloc11
            obtain ⟨va', vc', rfl⟩ := row_shape hown11
            have K11 := K10.push hg11 _ _ hown11 hloc11
            have hTC : ((⟨3, [], [], st.text, st.began, false⟩ : Tok).fin cs).cells (.slice none 0 0) = [.int .i64 3, .string ⟨#[]⟩, .slice none 0 0, .string ⟨tx.toArray⟩, .int .i64 (p.1 : Int), .int .i64 (p.2 : Int), .bool false] := by rw [hbp.out]; simp [Tok.fin, TokV.cells, htx'.out, narrow_nil']
            have hX := Lib.hid ((congrArg (tokCells (avs ++ [Value.slice none 0 0])) (List.map_append (f := Tok.fin cs) (l₁ := st.toks) (l₂ := [⟨3, [], [], st.text, st.began, false⟩]))).trans ((tokCells_snoc _ _ (Value.slice none 0 0) ((⟨3, [], [], st.text, st.began, false⟩ : Tok).fin cs) kN.row.len).trans (by rw [hTC])))
            replace hTC := Lib.hid hTC
            have KG11 := KG10.push hg11 _ (.slice none 0 0) ⟨3, [], [], st.text, st.began, false⟩ ⟨st.toks ++ [⟨3, [], [], st.text, st.began, false⟩], [], st.began⟩ (by
              rw [hTC.out]; exact hown11) hloc11 (World.ownsRow_nil _ _ _ _) (by simp [Value.ownBlock]) rfl rfl (by simp; omega)
            have hs10 := bk_lt T10
            have T11 := (hg11.block w9.heap.size (Nat.lt_of_lt_of_le hs10 ((Pur.refl _).alloc _).size) (fun e => hq11 _ e.symm rfl)).trans (bk_alloc T10 _)
            have t0 := bk_cell T11 0 (.int .i64 (t.kind : Int)) rfl
            have t1 := bk_cell T11 1 (.string ⟨(narrow t.nm).toArray⟩) rfl
            have t2 := bk_cell T11 2 (.slice xa t.attrs.length xc) rfl
            have t3 := bk_cell T11 3 (.string ⟨(narrow t.text).toArray⟩) rfl
            have t4 := bk_cell T11 4 (.int .i64 ((place cs (cs.length - t.left)).1 : Int)) rfl
            have t5 := bk_cell T11 5 (.int .i64 ((place cs (cs.length - t.left)).2 : Int)) rfl
            have t6 := bk_cell T11 6 (.bool t.empty) rfl
            clear hE a0 a1
            go_wp2_with (at_builtin; refine append_new w11 rfl _ _ 23 38 7 88 tok_info Tryz.underlying23 (by decide) (by decide) (by rfl) 0 _ (st.toks.length + 1) _ _ _ [.int .i64 (t.kind : Int), .string ⟨(narrow t.nm).toArray⟩, .slice xa t.attrs.length xc, .string ⟨(narrow t.text).toArray⟩, .int .i64 ((place cs (cs.length - t.left)).1 : Int), .int .i64 ((place cs (cs.length - t.left)).2 : Int), .bool t.empty] rfl ?c12 (by rfl) w11.heap.size (by simp [World.setCell]) (by rfl) K11.own (by omega) (Nat.zero_le _) ?_)
            case c12 => intro u hu; simp only [List.mem_cons, List.not_mem_nil, or_false] at hu; rcases hu with rfl | rfl | rfl | rfl | rfl | rfl | rfl <;> rfl
            intro v12 w12 hown12 hg12 hloc12
            obtain ⟨va2, vc2, rfl⟩ := row_shape hown12
            have K12 := K11.push hg12 _ _ hown12 hloc12
            have e12 := K12.sc.err
            have i12 := K12.sc.nat
            have hav11 := row_same hav10 (w' := w11) fun g hg => (hg11.block g (Nat.lt_of_lt_of_le (hav10.lt g hg).2 ((Pur.refl _).alloc _).size) (fun e => hav2 g hg (by rw [← e]; simp))).trans (((Pur.refl _).alloc _).block g (hav10.lt g hg).2)
            have hav3 : ∀ g, (Value.slice xa t.attrs.length xc).ownBlock = some g → g ∉ (Value.slice va' (st.toks.length + 1) vc').ownBlock.toList ++ (avs ++ [Value.slice none 0 0]).flatMap (fun (v : Value) => v.ownBlock.toList) := fun g hg hm => by
              rw [List.flatMap_append] at hm
              rcases List.mem_append.1 hm with hm | hm
              · rcases hloc11 with e | e
                · rw [e] at hm; exact hav2 g hg (List.mem_append_left _ hm)
                · rw [e] at hm; simp at hm; have := (hav10.lt g hg).2; omega
              · rcases List.mem_append.1 hm with hm | hm
                · exact hav2 g hg (List.mem_append_right _ hm)
                · simp [Value.ownBlock] at hm
            have KG12 := KG11.push hg12 _ _ t ⟨(st.toks ++ [⟨3, [], [], st.text, st.began, false⟩]) ++ [t], [], st.began⟩ (by rw [hX.out, List.append_assoc, List.length_append, List.length_singleton]; exact hown12) hloc12 hav11 hav3 rfl rfl (by simp; omega)
            go_wp2
            go_roundw
            case rel => exact .inl ⟨j', f, _, _, p, KG12, rfl, b2, by omega, HS⟩
            case measure => rw [e12, i12, e4, e3, if_pos rfl, if_pos rfl]; omega
      rw [if_neg b6] at hgo
      have hcons := drop_cons cs j hjl
      have hc60 : cs.getD j 0 ≠ 60 := by
        rw [hcons] at b6
        simpa [hd] using b6
      rw [pre_one, show hd (fun c => c == 60) (cs.drop j) = false by simpa using b6] at H6
      have WD := fun w' (hp : Pur w5 w') => rwords_any (k5.base.sc.pur hp) j2
      clear b6
      rcases hr : chunk (cs.drop j) with ⟨k, n⟩ | ⟨t, z⟩
      · rw [hr] at hgo WD
        simp only [and_error] at hgo
        have HS := Lib.hid (H.out.trans hgo)
        clear H hgo hr hcons hc60
        go_wp2_with fail
        refine (H1 _ (Pur.refl _)).mono ?_
        rintro e v1 ⟨rfl, y1⟩
        have P1 : Pur w5 v1 := y1
        go_wp2_with fail
        refine (H2 _ P1).mono ?_
        rintro e v2 ⟨rfl, y2⟩
        have P2 : Pur w5 v2 := P1.trans y2
        go_wp2_with fail
        refine (H3 _ P2).mono ?_
        rintro e v3 ⟨rfl, y3⟩
        have P3 : Pur w5 v3 := P2.trans y3
        go_wp2_with fail
        refine (H4 _ P3).mono ?_
        rintro e v4 ⟨rfl, y4⟩
        have P4 : Pur w5 v4 := P3.trans y4
        go_wp2_with fail
        refine (H5 _ P4).mono ?_
        rintro e v5 ⟨rfl, y5⟩
        have P5 : Pur w5 v5 := P4.trans y5
        go_wp2_with fail
        refine (H6 _ P5).mono ?_
        rintro e v6 ⟨rfl, y6⟩
        have P6 : Pur w5 v6 := P5.trans y6
        have P := P6
        have kN := k5.pur P
        have FN := bk_pur F5 P
        clear H1 H2 H3 H4 H5 H6
        go_wp2_with fail
        refine (WD _ P).mono ?_
        rintro e w9 ⟨⟨_, rfl, ml, rfl, hml⟩, j', b1', b2', hn, S9, g9⟩
        clear WD
        have K9 := kN.base.chgd S9 g9
        have e9 := S9.err
        have F9 := bk_chg FN g9 (by simp; exact n9)
        have o0 := bk_cell F9 0 _ rfl
        have o1 := bk_cell F9 1 _ rfl
        have a0 := bk_cell K9.at_ 0 _ rfl
        have a1 := bk_cell K9.at_ 1 _ rfl
        have f0 := bk_free K9.at_ 0
        have f1 := bk_free K9.at_ 1
        have KA := (K9.setat 0 (.int .i64 ((place cs j).1 : Int)) ((place cs j).1, p.2) (by simp)).setat 1 (.int .i64 ((place cs j).2 : Int)) (place cs j) (by simp)
        have eA := KA.sc.err
        obtain ⟨tx, htx'⟩ : ∃ tx, narrow st.text = tx := ⟨_, rfl⟩
        rw [htx'] at hnl ⊢
        have z0 : ¬ 9223372036854775807 < tx.length := by omega
        replace htx' := Lib.hid htx'
        have z1 : ¬ 9223372036854775807 < tx.length + ml.length := by omega
        have z2 : ¬ 9223372036854775807 < ml.length := by omega
        clear F9 FN
        rcases hE : tx.isEmpty with _ | _ <;> rcases hM : ml.isEmpty with _ | _
        all_goals
          go_wp2
          go_roundw
          case rel => first | exact .inr ⟨_, _, _, _, _, p, hn, K9, HS⟩ | exact .inr ⟨_, _, _, _, _, place cs j, hn, KA, HS⟩
          case measure => first | (rw [e9, e4, e3, if_neg hn, if_pos rfl]; omega) | (rw [eA, e4, e3, if_neg hn, if_pos rfl]; omega)
      · rw [hr] at hgo WD
        simp only [and_ok] at hgo
        have hlt : z.length < (cs.drop j).length := by
          rw [hcons] at hr ⊢
          exact chunk_lt hc60 hr
        have htl := chunkGo_tl _ _ _ _ hr
        have HS := Lib.hid (H.out.trans hgo)
        clear H hgo hr hcons hc60
        go_wp2_with fail
        refine (H1 _ (Pur.refl _)).mono ?_
        rintro e v1 ⟨rfl, y1⟩
        have P1 : Pur w5 v1 := y1
        go_wp2_with fail
        refine (H2 _ P1).mono ?_
        rintro e v2 ⟨rfl, y2⟩
        have P2 : Pur w5 v2 := P1.trans y2
        go_wp2_with fail
        refine (H3 _ P2).mono ?_
        rintro e v3 ⟨rfl, y3⟩
        have P3 : Pur w5 v3 := P2.trans y3
        go_wp2_with fail
        refine (H4 _ P3).mono ?_
        rintro e v4 ⟨rfl, y4⟩
        have P4 : Pur w5 v4 := P3.trans y4
        go_wp2_with fail
        refine (H5 _ P4).mono ?_
        rintro e v5 ⟨rfl, y5⟩
        have P5 : Pur w5 v5 := P4.trans y5
        go_wp2_with fail
        refine (H6 _ P5).mono ?_
        rintro e v6 ⟨rfl, y6⟩
        have P6 : Pur w5 v6 := P5.trans y6
        have P := P6
        have kN := k5.pur P
        have FN := bk_pur F5 P
        clear H1 H2 H3 H4 H5 H6
        go_wp2_with fail
        refine (WD _ P).mono ?_
        rintro e w9 ⟨rfl, j', a1, b1', b2, S9, g9⟩
        rw [← a1, List.length_drop, List.length_drop] at hlt
        rw [← a1, List.length_drop, List.length_drop] at htl
        rw [← a1] at HS
        clear WD a1
        have K9 := kN.chgd S9 g9 (by omega)
        have e9 := S9.err
        have i9 := S9.nat
        have F9 := bk_chg FN g9 (by simp; exact n9)
        have o0 := bk_cell F9 0 _ rfl
        have o1 := bk_cell F9 1 _ rfl
        have a0 := bk_cell K9.base.at_ 0 _ rfl
        have a1 := bk_cell K9.base.at_ 1 _ rfl
        have f0 := bk_free K9.base.at_ 0
        have f1 := bk_free K9.base.at_ 1
        have hml := narrow_len t
        clear F9 FN
        by_cases ht : st.text = []
        · have hE : narrow st.text = [] := by rw [ht]; rfl
          rw [hE]
          rw [List.length_drop] at HS
          by_cases hm : t = []
          · have hM : narrow t = [] := by rw [hm]; rfl
            have KB := K9.say_new (j := j) ht (by omega) t (fun h => absurd hm h) (by rw [hm]; simp)
            clear hE
            go_wp2
            go_roundw
            case rel => exact .inl ⟨j', f, _, avs, p, KB, by rw [say_text, ht, hm]; rfl, b2, by omega, HS⟩
            case measure => rw [e9, i9, e4, e3, if_pos rfl, if_pos rfl]; omega
          · have hM := narrow_ne hm
            have KA := (K9.setat 0 (.int .i64 ((place cs j).1 : Int)) ((place cs j).1, p.2) (by simp) ht).setat 1 (.int .i64 ((place cs j).2 : Int)) (place cs j) (by simp) ht
            have eA := KA.base.sc.err
            have iA := KA.base.sc.nat
            have KB := KA.say_new (j := j) ht (by omega) t (fun _ => rfl) (by omega)
            have z2 : ¬ 9223372036854775807 < (narrow t).length := by omega
            clear hE hm
            go_wp2
            go_roundw
            case rel => exact .inl ⟨j', f, _, avs, place cs j, KB, by rw [say_text, ht, List.nil_append], b2, by omega, HS⟩
            case measure => rw [eA, iA, e4, e3, if_pos rfl, if_pos rfl]; omega
        · have hE := narrow_ne ht
          have KB := K9.say_on ht (cs.drop j).length t (by omega)
          obtain ⟨tx, htx'⟩ : ∃ tx, narrow st.text = tx := ⟨_, rfl⟩
          rw [htx'] at hE hnl ⊢
          have z1 : ¬ 9223372036854775807 < tx.length + (narrow t).length := by omega
          replace htx' := Lib.hid htx'
          clear ht
          go_wp2
          go_roundw
          case rel => exact .inl ⟨j', f, _, avs, p, KB, by rw [say_text, narrow_app, htx'.out], b2, by omega, HS⟩
          case measure => rw [e9, i9, e4, e3, if_pos rfl, if_pos rfl]; omega
    · -- a fault has been told
      have c4 := K.sc.c4
      have c5 := K.sc.c5
      have c6 := K.sc.c6
      have y0 := bk_cell K.res 0 _ rfl
      have y1 := bk_cell K.res 1 _ rfl
      have f0 := bk_free K.res 0
      have f1 := bk_free K.res 1
      have d1 : ((n : Int) == 0) = false := by rw [beq_eq_false_iff_ne]; omega
      have d2 : ((n : Int) != 0) = true := by rw [bne_iff_ne]; omega
      have C4 : ∀ x : PW wr, x.to.cell? ⟨r.p, 4, none⟩ = some (.int .i64 (n : Int)) := fun x => (K.sc.pur x.pur).c4
      have hlw := K.new
      obtain ⟨pos, hpos⟩ : ∃ q, place cs (cs.length - k) = q := ⟨_, rfl⟩
      rw [hpos] at c5 c6 K
      have HF := Lib.hid (show whole l = .error (pos, n) by rw [HW.out, H.out, ← hpos])
      clear HW H hpos
      go_wp2
      refine wp_region_pur (by kernel_rfl) (by kernel_rfl) ?_
      repeat (go_big_quiet_step (fail))
      refine wpQuiet_nil ?_
      intro wq hq
      have k4 := K.pur hq
      clear C4 c4 c5 c6 y0 y1 f0 f1 K
      have c4 := k4.sc.c4
      have c5 := k4.sc.c5
      have c6 := k4.sc.c6
      have y0 := bk_cell k4.res 0 _ rfl
      have y1 := bk_cell k4.res 1 _ rfl
      have f0 := bk_free k4.res 0
      have f1 := bk_free k4.res 1
      go_wp2
      go_region
      all_goals
        have KF := bk_set (bk_set k4.res 0 (.int .i64 (pos.1 : Int))) 1 (.int .i64 (pos.2 : Int))
        have KD : ((wq.setCell ⟨q3, 0, none⟩ (.int .i64 (pos.1 : Int))).setCell ⟨q3, 1, none⟩ (.int .i64 (pos.2 : Int))).drew.heap[q3]? = some (.cells #[.int .i64 (pos.1 : Int), .int .i64 (pos.2 : Int)] 29 (0, 0)) := bk_pur KF ((Pur.refl _).drew)
        have GF := ((k4.chg.setCell (a := ⟨q3, 0, none⟩) (.inr hlw.1) (.int .i64 (pos.1 : Int))).setCell (a := ⟨q3, 1, none⟩) (.inr hlw.1) (.int .i64 (pos.2 : Int))).drew
        go_wp2
        (try simp only [Exit.inBlock, Exit.then])
        refine bodyPost_ret (results_tct rfl _ _ q3 29 _ (0, 0) _ rfl KD Tryz.underlying29 rfl (by kernel_rfl)) rfl ?_
        refine ⟨GF.to_pur (fun b hb => by simp at hb; rcases hb with rfl | rfl <;> omega), ?_⟩
        rw [HF.out]
        exact ⟨rfl, hn⟩
/-- THE DOCUMENT'S TOKENS -/
theorem rtokens_any (l : List UInt8) (w : World) : Calls Tryz.prog 6 #[.string ⟨l.toArray⟩] w fun e w' => RToks w (whole l) e w' := by
  by_cases hlong : 65536 < l.length
  · refine (rtokens_bad l w (1, 1) 2 (by decide) (.inl ⟨hlong, rfl, rfl⟩)).mono ?_
    rintro e w' ⟨rfl, hp⟩
    refine ⟨hp, ?_⟩
    rw [show whole l = .error ((1, 1), 2) by unfold whole; rw [if_pos hlong]]
    exact ⟨rfl, by decide⟩
  by_cases hr : (read l).2 = 0
  · exact rtokens_good l w hlong hr
  · refine (rtokens_bad l w _ _ hr (.inr ⟨hlong, rfl, rfl⟩)).mono ?_
    rintro e w' ⟨rfl, hp⟩
    refine ⟨hp, ?_⟩
    rw [show whole l = .error (place (read l).1 (read l).1.length, (read l).2) by unfold whole; rw [if_neg hlong, if_pos hr]]
    exact ⟨rfl, hr⟩
end Tk
end Go.Proofs.YtaknfofppknloaaGreatDoor
