/- A region that draws its order: the operations ahead yield one value in every world of a class (calls that make memory among them), and behind them all stands a forced tail (append, store): one walk in the order of the text. -/
import Derived.Test.YtciigfaojmpoiaaGreatDoorBase
import Derived.StillTail
namespace Go.Proofs.YtciigfaojmpoiaaGreatDoor
open Go Go.RowKit
set_option linter.all false
section
variable {P : Program} {ops : Array Oper} {md : Region.Mode} {C : World → Prop}
/-- up to the tail: only operations ahead of place n come up, each quiet in the class -/
def headQ (P : Program) (md : Region.Mode) (ops : Array Oper) (C : World → Prop) (n : Nat) (L : Array Bool → Act → Prop) : Nat → Array Bool → Act → Prop
  | 0, s, a => L s a
  | f + 1, s, a => Region.ready md ops s ≠ [] ∧ ∀ i, i ∈ Region.ready md ops s → i < n ∧ qOp P ops C i (fun a' => headQ P md ops C n L f (s.setIfInBounds i true) a') a
theorem headQ_any {n g : Nat} {L : Array Bool → Act → Prop} {Q' : Exit → Act → World → Prop} (hL : ∀ s a w, C w → L s a → wpAny P md ops Q' g s a w) (f : Nat) :
    ∀ (s : Array Bool) (a : Act) (w : World), C w → headQ P md ops C n L f s a → wpAny P md ops Q' (f + g) s a w := by
  induction f with
  | zero => intro s a w hw h; rw [Nat.zero_add]; exact hL s a w hw h
  | succ f ih =>
    intro s a w hw h
    rw [Nat.succ_add]
    refine ⟨fun h0 => absurd h0 h.1, fun i hi => ?_⟩
    exact wpOp_of_qOp hw (fun a' w' hw' hk => ih _ a' w' hw' hk) (h.2 i hi).2
theorem headQ_first {n i : Nat} {oi : Oper} {v : Value} {L : Array Bool → Act → Prop} (hi : ops[i]? = some oi) (hsel : ∀ (j : Nat) (o : Oper) cs b, ops[j]? = some o → o.op ≠ .select cs b)
    (hs : Region.sinkB md ops n = true) (hc : Region.chainB md ops n = true) (hn : n < ops.size) (hin : i < n)
    (hdone : ∀ s a, L s a → ∀ j ∈ Region.ready md ops s, n ≤ j) (f : Nat) :
    ∀ (s : Array Bool) (a : Act), HeadInv md ops n s →
      (∀ j oj, ops[j]? = some oj → j ≠ i → s.getD j true = false → (∀ e ∈ oj.after, Region.binds md e = true → e.on ≠ i) → oi.apart ops oj = true) →
      i ∈ Region.ready md ops s → YieldsIn P ops C oi v a →
      headQ P md ops C n L f (s.setIfInBounds i true) (a.put oi.dst v) → headQ P md ops C n L (f + 1) s a := by
  induction f with
  | zero =>
    intro s a inv _ hr hy H
    have hun : s.getD i true = false := (mem_ready.1 hr).1
    refine ⟨List.ne_nil_of_mem hr, fun j hj => ?_⟩
    have hjn : j < n := Nat.lt_of_not_le fun h => absurd hj (tail_waits hs hc hn inv _ i rfl hin hun j h)
    refine ⟨hjn, ?_⟩
    by_cases hji : j = i
    · subst hji; exact hy.qOp hi H
    · have := hdone _ _ H j (ready_mono hj hji)
      omega
  | succ f ih =>
    intro s a inv hfree hr hy H
    have hun : s.getD i true = false := (mem_ready.1 hr).1
    refine ⟨List.ne_nil_of_mem hr, fun j hj => ?_⟩
    have hjn : j < n := Nat.lt_of_not_le fun h => absurd hj (tail_waits hs hc hn inv _ i rfl hin hun j h)
    refine ⟨hjn, ?_⟩
    by_cases hji : j = i
    · subst hji; exact hy.qOp hi H
    obtain ⟨hjun, oj, hoj, hall⟩ := mem_ready.1 hj
    have hnot : ∀ e ∈ oj.after, Region.binds md e = true → e.on ≠ i := by
      intro e he hb heq
      have h1 := hall e he hb
      rw [heq, getD_both hun] at h1
      cases h1
    have h2 := qOp_put hoj (hfree j oj hoj hji hjun hnot) (fun cs b => hsel i oi cs b hi) (fun cs b => hsel j oj cs b hoj) hy (H.2 j (ready_mono hj hji)).2
    refine qOp_mono (fun a' h3 => ih (s.setIfInBounds j true) a' (inv.set hj hjn) ?_ (ready_mono hr (Ne.symm hji)) h3.1 (by rw [Array.setIfInBounds_comm _ _ hji]; exact h3.2)) h2
    intro k ok hk hki hun' hno
    refine hfree k ok hk hki ?_ hno
    by_cases hjk : j = k
    · rw [← hjk]; exact hjun
    · rwa [getD_set_ne true hjk] at hun'
theorem headQ_lex {n g : Nat} {Lq : Act → Prop} (hsel : Region.noSelect ops = true) (hs : Region.sinkB md ops n = true) (hc : Region.chainB md ops n = true) (hn : n < ops.size) :
    ∀ (l : List Oper) (k : Nat) (s : Array Bool) (a : Act), (∀ j, j < l.length → l[j]? = ops[k + j]?) → k + l.length = n → HeadInv md ops n s →
    Region.lexHead md ops g l.length k s = true → wpQuiet P ops C Lq l a →
    headQ P md ops C n (fun s' a' => Region.seqB md ops g n s' = true ∧ Lq a') l.length s a
  | [], k, s, a, _, hk, _, hB, h => by
    obtain rfl : k = n := hk
    exact ⟨hB, h⟩
  | o :: l, k, s, a, hl, hk, inv, hB, h => by
    have h0 : ops[k]? = some o := (hl 0 (Nat.succ_pos _)).symm
    simp only [List.length_cons, Region.lexHead, Bool.and_eq_true] at hB
    obtain ⟨⟨hr, hf⟩, hB'⟩ := hB
    rw [List.length_cons] at hk
    have hr' : k ∈ Region.ready md ops s := by simpa using hr
    have hq : qOp P ops C k (fun a' => wpQuiet P ops C Lq l a') a := by unfold qOp; simp only [h0]; exact h
    obtain ⟨v, hy, hK⟩ := yieldsIn_of_qOp h0 hq
    refine headQ_first h0 (Region.noSelect_spec hsel) hs hc hn (by omega) (fun s' a' hL => seqB_ready hL.1) l.length s a inv (Region.free_spec h0 hf) hr' hy ?_
    refine headQ_lex hsel hs hc hn l (k + 1) _ _ (fun j hj => ?_) (by omega) (inv.set hr' (by omega)) hB' hK
    have := hl (j + 1) (by rw [List.length_cons]; omega)
    rw [List.getElem?_cons_succ] at this
    rw [this]
    congr 1
    omega
/-- THE LAW: n operations quiet in the class, in the order of the text; the others behind them one by one, from every world of the class. -/
theorem wp_region_quiet_tail {id : Nat} {Q : Exit → Act → World → Prop} {a : Act} {w : World} {l : List Oper} (n : Nat) (hm : P.follows .mixedOrders = true) (hB : Region.lexTailB .any l.toArray n = true) (hC : C w.drew)
    (h : wpQuiet P l.toArray C (fun a' => ∀ w', C w' → wpList P l.toArray Q (l.drop n) a' w') (l.take n) a) : (Code.region id l.toArray true).wp P Q a w := by
  simp only [Region.lexTailB, Bool.and_eq_true, decide_eq_true_eq] at hB
  obtain ⟨⟨⟨⟨hsel, hn⟩, hs⟩, hc⟩, hlex⟩ := hB
  have hn' : n < l.length := by simpa using hn
  have htl : (l.take n).length = n := by rw [List.length_take]; omega
  have hdl : (l.drop n).length = l.toArray.size - n := by simp
  have inv0 : HeadInv .any l.toArray n (Array.replicate l.toArray.size false) :=
    ⟨by simp, fun j oj _ hl => (by rw [getD_replicate_false] at hl; cases hl), fun t _ ht => getD_in (by simpa using ht) (getD_replicate_false _ _)⟩
  have H := headQ_lex (md := .any) (g := l.toArray.size - n) (P := P) (C := C) hsel hs hc hn (l.take n) 0 _ a (fun j hj => by
    rw [htl] at hj
    simp [hj]) (by rw [htl]; omega) inv0 (by rw [htl]; exact hlex) h
  refine wp_region_any hm ?_
  have hfin := headQ_any (Q' := Q) (g := l.toArray.size - n) (fun s a' w' hw' (hL : _ ∧ _) => by
    have := wpAny_of_seq (P := P) (md := .any) (Q' := Q) (l.drop n) n s a' w' (fun j => by simp [List.getElem?_drop]) (by rw [hdl]; exact hL.1) (hL.2 w' hw')
    rwa [hdl] at this) _ _ _ w.drew hC H
  rw [htl, show n + (l.toArray.size - n) = l.toArray.size by omega] at hfin
  exact hfin
/-- The same in the class of the worlds in which nothing old has turned. -/
theorem wp_region_pur_tail {id : Nat} {Q : Exit → Act → World → Prop} {a : Act} {w : World} {l : List Oper} (n : Nat) (hm : P.follows .mixedOrders = true) (hB : Region.lexTailB .any l.toArray n = true)
    (h : wpQuiet P l.toArray (fun w' => ∃ x : PW w, w' = x.to) (fun a' => ∀ w', Pur w w' → wpList P l.toArray Q (l.drop n) a' w') (l.take n) a) : (Code.region id l.toArray true).wp P Q a w := by
  refine wp_region_quiet_tail (C := fun w' => ∃ x : PW w, w' = x.to) n hm hB ⟨⟨_, (Pur.refl w).drew⟩, rfl⟩ ?_
  have : (fun a' => ∀ w', (∃ x : PW w, w' = x.to) → wpList P l.toArray Q (l.drop n) a' w') = (fun a' => ∀ w', Pur w w' → wpList P l.toArray Q (l.drop n) a' w') := by
    funext a'
    exact propext ⟨fun h w' hw => h w' ⟨⟨w', hw⟩, rfl⟩, fun h w' ⟨x, hx⟩ => h w' (hx ▸ x.pur)⟩
  rw [this]
  exact h
/-! ### The same, with some moves taken ahead of all else (what an append at the tail reads) -/
def sinkM (md : Region.Mode) (ops : Array Oper) (n : Nat) (ms : List Nat) : Bool :=
  (List.range n).all fun i => ms.contains i || (List.range (n + 1)).any fun j => decide (i < j) && Region.waitsFor md ops j i
theorem sinkM_waits {n : Nat} {s : Array Bool} {ms : List Nat} (hs : sinkM md ops n ms = true) (hc : Region.chainB md ops n = true) (hn : n < ops.size) (inv : HeadInv md ops n s) (pre : ∀ i, i ∈ ms → s.getD i false = true) :
    ∀ (d i : Nat), n - i = d → i < n → s.getD i true = false → ∀ t, n ≤ t → t ∉ Region.ready md ops s := by
  intro d
  induction d using Nat.strongRecOn with
  | _ d ih =>
    intro i hd hi hun t ht hr
    obtain ⟨_, ot, hot, hall⟩ := mem_ready.1 hr
    have htlt : t < ops.size := (Array.getElem?_eq_some_iff.1 hot).1
    by_cases htn : t = n
    · have h1 := List.all_eq_true.1 hs i (List.mem_range.2 hi)
      simp only [Bool.or_eq_true] at h1
      rcases h1 with h1 | h1
      · have := pre i (by simpa using h1)
        rw [getD_both hun] at this
        cases this
      obtain ⟨j, hj, hj2⟩ := List.any_eq_true.1 h1
      simp only [Bool.and_eq_true, decide_eq_true_eq] at hj2
      obtain ⟨oj, hoj, e, he, hb, hon⟩ := Region.waitsFor_spec hj2.2
      have hjle : j ≤ n := by have := List.mem_range.1 hj; omega
      by_cases hjt : j = n
      · subst hjt htn
        have : oj = ot := Option.some.inj (hoj.symm.trans hot)
        subst this
        have h2 := hall e he hb
        rw [hon, getD_both hun] at h2
        cases h2
      · cases hl : s.getD j false with
        | true =>
          have h2 := inv.closed j oj hoj hl e he hb
          rw [hon, getD_both hun] at h2
          cases h2
        | false =>
          have hjs : j < s.size := by rw [inv.size]; omega
          exact ih (n - j) (by omega) j rfl (by omega) (getD_in hjs hl) t ht hr
    · have h1 := List.all_eq_true.1 hc t (List.mem_range.2 htlt)
      simp only [Bool.or_eq_true, decide_eq_true_eq] at h1
      rcases h1 with h1 | h1
      · omega
      · obtain ⟨o', ho', e, he, hb, hon⟩ := Region.waitsFor_spec h1
        have : o' = ot := Option.some.inj (ho'.symm.trans hot)
        subst this
        have h2 := hall e he hb
        rw [hon, getD_both (inv.tail (t - 1) (by omega) (by omega))] at h2
        cases h2
theorem headQ_firstM {n i : Nat} {oi : Oper} {v : Value} {ms : List Nat} {L : Array Bool → Act → Prop} (hi : ops[i]? = some oi) (hsel : ∀ (j : Nat) (o : Oper) cs b, ops[j]? = some o → o.op ≠ .select cs b)
    (hs : sinkM md ops n ms = true) (hc : Region.chainB md ops n = true) (hn : n < ops.size) (hin : i < n)
    (hdone : ∀ s a, L s a → ∀ j ∈ Region.ready md ops s, n ≤ j) (f : Nat) :
    ∀ (s : Array Bool) (a : Act), HeadInv md ops n s → (∀ i, i ∈ ms → s.getD i false = true) →
      (∀ j oj, ops[j]? = some oj → j ≠ i → s.getD j true = false → (∀ e ∈ oj.after, Region.binds md e = true → e.on ≠ i) → oi.apart ops oj = true) →
      i ∈ Region.ready md ops s → YieldsIn P ops C oi v a →
      headQ P md ops C n L f (s.setIfInBounds i true) (a.put oi.dst v) → headQ P md ops C n L (f + 1) s a := by
  induction f with
  | zero =>
    intro s a inv pre _ hr hy H
    have hun : s.getD i true = false := (mem_ready.1 hr).1
    refine ⟨List.ne_nil_of_mem hr, fun j hj => ?_⟩
    have hjn : j < n := Nat.lt_of_not_le fun h => absurd hj (sinkM_waits hs hc hn inv pre _ i rfl hin hun j h)
    refine ⟨hjn, ?_⟩
    by_cases hji : j = i
    · subst hji; exact hy.qOp hi H
    · have := hdone _ _ H j (ready_mono hj hji)
      omega
  | succ f ih =>
    intro s a inv pre hfree hr hy H
    have hun : s.getD i true = false := (mem_ready.1 hr).1
    refine ⟨List.ne_nil_of_mem hr, fun j hj => ?_⟩
    have hjn : j < n := Nat.lt_of_not_le fun h => absurd hj (sinkM_waits hs hc hn inv pre _ i rfl hin hun j h)
    refine ⟨hjn, ?_⟩
    by_cases hji : j = i
    · subst hji; exact hy.qOp hi H
    obtain ⟨hjun, oj, hoj, hall⟩ := mem_ready.1 hj
    have hnot : ∀ e ∈ oj.after, Region.binds md e = true → e.on ≠ i := by
      intro e he hb heq
      have h1 := hall e he hb
      rw [heq, getD_both hun] at h1
      cases h1
    have h2 := qOp_put hoj (hfree j oj hoj hji hjun hnot) (fun cs b => hsel i oi cs b hi) (fun cs b => hsel j oj cs b hoj) hy (H.2 j (ready_mono hj hji)).2
    refine qOp_mono (fun a' h3 => ih (s.setIfInBounds j true) a' (inv.set hj hjn) (fun k hk => getD_set_true (pre k hk)) ?_ (ready_mono hr (Ne.symm hji)) h3.1 (by rw [Array.setIfInBounds_comm _ _ hji]; exact h3.2)) h2
    intro k ok hk hki hun' hno
    refine hfree k ok hk hki ?_ hno
    by_cases hjk : j = k
    · rw [← hjk]; exact hjun
    · rwa [getD_set_ne true hjk] at hun'
/-- the quiet operations' order, by their places -/
def lexI (md : Region.Mode) (ops : Array Oper) (g n : Nat) : List Nat → Array Bool → Bool
  | [], s => Region.seqB md ops g n s
  | k :: ks, s => decide (k < n) && (Region.ready md ops s).contains k && Region.free md ops s k && lexI md ops g n ks (s.setIfInBounds k true)
theorem headQ_lexI {n g : Nat} {ms : List Nat} {Lq : Act → Prop} (hsel : Region.noSelect ops = true) (hs : sinkM md ops n ms = true) (hc : Region.chainB md ops n = true) (hn : n < ops.size) :
    ∀ (ks : List Nat) (s : Array Bool) (a : Act), HeadInv md ops n s → (∀ i, i ∈ ms → s.getD i false = true) →
    lexI md ops g n ks s = true → wpQuiet P ops C Lq (ks.filterMap (ops.toList[·]?)) a →
    headQ P md ops C n (fun s' a' => Region.seqB md ops g n s' = true ∧ Lq a') ks.length s a
  | [], s, a, _, _, hB, h => ⟨hB, h⟩
  | k :: ks, s, a, inv, pre, hB, h => by
    simp only [lexI, Bool.and_eq_true, decide_eq_true_eq] at hB
    obtain ⟨⟨⟨hk, hr⟩, hf⟩, hB'⟩ := hB
    have hr' : k ∈ Region.ready md ops s := by simpa using hr
    obtain ⟨_, o, h0, _⟩ := mem_ready.1 hr'
    have h0' : ops.toList[k]? = some o := by simpa using h0
    rw [List.filterMap_cons, h0'] at h
    have hq : qOp P ops C k (fun a' => wpQuiet P ops C Lq (ks.filterMap (ops.toList[·]?)) a') a := by unfold qOp; simp only [h0]; exact h
    obtain ⟨v, hy, hK⟩ := yieldsIn_of_qOp h0 hq
    refine headQ_firstM h0 (Region.noSelect_spec hsel) hs hc hn hk (fun s' a' hL => seqB_ready hL.1) ks.length s a inv pre (Region.free_spec h0 hf) hr' hy ?_
    exact headQ_lexI hsel hs hc hn ks _ _ (inv.set hr' hk) (fun i hi => getD_set_true (pre i hi)) hB' hK
/-- what a bare move moves -/
def isMove (o : Oper) : Option Operand := match o.op, o.guard with
  | .move x, none => some x
  | _, _ => none
/-- the moves, by their places: each may come up, is free, and is a bare move -/
def movesB (md : Region.Mode) (ops : Array Oper) (n : Nat) : List Nat → Array Bool → Bool
  | [], _ => true
  | k :: ks, s => decide (k < n) && (Region.ready md ops s).contains k && Region.free md ops s k && ((ops[k]?.bind isMove).isSome) && movesB md ops n ks (s.setIfInBounds k true)
def listM (ms : List Nat) (s : Array Bool) : Array Bool := ms.foldl (fun s k => s.setIfInBounds k true) s
def putM (l : List Oper) (ms : List Nat) (a : Act) : Act := ms.foldl (fun a k => match l[k]? with | some o => (match isMove o with | some x => a.put o.dst (a.eval x) | none => a) | none => a) a
theorem HeadInv.listM {n : Nat} : ∀ (ms : List Nat) (s : Array Bool), HeadInv md ops n s → movesB md ops n ms s = true → HeadInv md ops n (listM ms s) ∧ (∀ i, (i ∈ ms ∨ s.getD i false = true) → (listM ms s).getD i false = true)
  | [], s, inv, _ => ⟨inv, fun i h => by rcases h with h | h; cases h; exact h⟩
  | k :: ks, s, inv, hB => by
    simp only [movesB, Bool.and_eq_true, decide_eq_true_eq] at hB
    obtain ⟨⟨⟨⟨hk, hr⟩, _⟩, _⟩, hB'⟩ := hB
    have hr' : k ∈ Region.ready md ops s := by simpa using hr
    obtain ⟨h1, h2⟩ := HeadInv.listM ks _ (inv.set hr' hk) hB'
    refine ⟨h1, fun i hi => h2 i ?_⟩
    rcases hi with hi | hi
    · rcases List.mem_cons.1 hi with rfl | hi
      · right
        have hlt : i < s.size := by
          rcases Nat.lt_or_ge i s.size with h | h
          · exact h
          · have := (mem_ready.1 hr').1
            simp [Array.getElem?_eq_none h] at this
        simp [hlt]
      · exact .inl hi
    · exact .inr (getD_set_true hi)
theorem wpAny_moves {n : Nat} {Q : Exit → Act → World → Prop} (l : List Oper) (hQ : ∀ (d : Option Tmp) (v : Value) c a w, Q (.panic c) (a.put d v) w → Q (.panic c) a w) (hsel : Region.noSelect l.toArray = true) (f : Nat) :
    ∀ (ms : List Nat) (s : Array Bool) (a : Act) (w : World), movesB md l.toArray n ms s = true → wpAny P md l.toArray Q f (listM ms s) (putM l ms a) w → wpAny P md l.toArray Q (f + ms.length) s a w
  | [], s, a, w, _, h => h
  | k :: ks, s, a, w, hB, h => by
    simp only [movesB, Bool.and_eq_true, decide_eq_true_eq] at hB
    obtain ⟨⟨⟨⟨hk, hr⟩, hf⟩, hm⟩, hB'⟩ := hB
    have h0 : ∃ o, l.toArray[k]? = some o := by
      obtain ⟨_, o, h0, _⟩ := mem_ready.1 (show k ∈ Region.ready md l.toArray s by simpa using hr)
      exact ⟨o, h0⟩
    obtain ⟨o, h0⟩ := h0
    rw [h0] at hm
    obtain ⟨x, hx⟩ := Option.isSome_iff_exists.1 (show (isMove o).isSome = true from hm)
    have h0' : l[k]? = some o := by simpa using h0
    have hox : o.op = .move x ∧ o.guard = none := by
      unfold isMove at hx
      split at hx
      · rename_i y h1 h2
        rw [Option.some.inj hx] at h1
        exact ⟨h1, h2⟩
      · cases hx
    refine wpAny_take h0 hsel hf hr (fun c a w => hQ o.dst _ c a w) (v := a.eval x) (.inl ⟨by simp [Region.wanted, hox.2], fun w => by simp [execOp, hox.1]⟩) ?_
    exact wpAny_moves (n := n) l hQ hsel f ks (s.setIfInBounds k true) (a.put o.dst (a.eval x)) w hB' (by
      have e1 : putM l (k :: ks) a = putM l ks (a.put o.dst (a.eval x)) := by
        unfold putM
        rw [List.foldl_cons, h0']
        simp only [hx]
      rw [← e1]
      exact h)
def tailB (ops : Array Oper) (n : Nat) (ms ks : List Nat) : Bool :=
  Region.noSelect ops && decide (n < ops.size) && sinkM .any ops n ms && Region.chainB .any ops n && movesB .any ops n ms (Array.replicate ops.size false) && lexI .any ops (ops.size - n) n ks (listM ms (Array.replicate ops.size false)) && decide (ms.length + ks.length = n)
/-- THE LAW: the moves 'ms' first; then the quiet operations 'ks' in that order; then all from place n on. -/
theorem wp_region_pur_tail_m {id : Nat} {Q : Exit → Act → World → Prop} {a : Act} {w : World} {l : List Oper} (n : Nat) (ms ks : List Nat) (hm : P.follows .mixedOrders = true) (hB : tailB l.toArray n ms ks = true)
    (hQ : ∀ (d : Option Tmp) (v : Value) c a w, Q (.panic c) (a.put d v) w → Q (.panic c) a w)
    (h : wpQuiet P l.toArray (fun w' => ∃ x : PW w, w' = x.to) (fun a' => ∀ w', Pur w w' → wpList P l.toArray Q (l.drop n) a' w') (ks.filterMap (l[·]?)) (putM l ms a)) : (Code.region id l.toArray true).wp P Q a w := by
  simp only [tailB, Bool.and_eq_true, decide_eq_true_eq] at hB
  obtain ⟨⟨⟨⟨⟨⟨hsel, hn⟩, hs⟩, hc⟩, hmv⟩, hlex⟩, hlen⟩ := hB
  have hdl : (l.drop n).length = l.toArray.size - n := by simp
  have inv0 : HeadInv .any l.toArray n (Array.replicate l.toArray.size false) :=
    ⟨by simp, fun j oj _ hl => (by rw [getD_replicate_false] at hl; cases hl), fun t _ ht => getD_in (by simpa using ht) (getD_replicate_false _ _)⟩
  obtain ⟨inv1, pre1⟩ := HeadInv.listM ms _ inv0 hmv
  have H := headQ_lexI (P := P) (C := fun w' => ∃ x : PW w, w' = x.to) (md := .any) (g := l.toArray.size - n) hsel hs hc hn ks _ (putM l ms a) inv1 (fun i hi => pre1 i (.inl hi)) hlex (by simpa using h)
  refine wp_region_any hm ?_
  have hfin := headQ_any (Q' := Q) (g := l.toArray.size - n) (fun s a' w' hw' (hL : _ ∧ _) => by
    obtain ⟨x, rfl⟩ := hw'
    have := wpAny_of_seq (P := P) (md := .any) (Q' := Q) (l.drop n) n s a' x.to (fun j => by simp [List.getElem?_drop]) (by rw [hdl]; exact hL.1) (hL.2 _ x.pur)
    rwa [hdl] at this) _ _ _ w.drew ⟨⟨_, (Pur.refl w).drew⟩, rfl⟩ H
  have hfuel := wpAny_moves (n := n) l hQ hsel _ ms _ a w.drew hmv hfin
  rw [show ks.length + (l.toArray.size - n) + ms.length = l.toArray.size by omega] at hfuel
  exact hfuel
end
end Go.Proofs.YtciigfaojmpoiaaGreatDoor
