/- Laws of mine on blocks, that lean on no program: a block known whole; rows of the call's own; what has turned. A region that draws its order: the operations ahead yield one value in every world of a class (calls that make memory among them), and behind them all stands a forced tail (append, store): one walk in the order of the text. A region that draws its order: what loads or computes may be taken first, as long as a condition T on the world holds up to the operation d which waits for it; then the rest, one by one. A region that draws: two operations come up at once. -/
import Derived.Test.YtigfcchblfnnbaaGreatDoorBase
import Derived.Laws.AppendOwn
import Derived.Laws.AppendOwnNone
import Derived.Maps.AppendAt
import Derived.OwnWalk
import Derived.StillTail
import Derived.OrdersHeld
import Derived.Deep.RegionHeld
namespace Go.Proofs.YtigfcchblfnnbaaGreatDoor
open Go Go.RowKit
set_option linter.all false
theorem bk_cell {w : World} {b : Nat} {cur : Array Value} {e : TypeId} (h : w.heap[b]? = some (.cells cur e (0, 0))) (i : Nat) (v : Value) (hv : cur[i]? = some v) : w.cell? ⟨b, i, none⟩ = some v := by
  rw [cell_of_row w _ i _ _ _ h]; exact hv
theorem bk_lt {w : World} {b : Nat} {o : Obj} (h : w.heap[b]? = some o) : b < w.heap.size := (Array.getElem?_eq_some_iff.1 h).1
theorem bk_pur {w w' : World} {b : Nat} {o : Obj} (h : w.heap[b]? = some o) (hp : Pur w w') : w'.heap[b]? = some o := (hp.block b (bk_lt h)).trans h
theorem bk_alloc {w : World} {b : Nat} {o : Obj} (h : w.heap[b]? = some o) (o' : Obj) : (w.alloc o').heap[b]? = some o := bk_pur h ((Pur.refl w).alloc o')
theorem bk_drew {w : World} {b : Nat} {o : Obj} (h : w.heap[b]? = some o) : w.drew.heap[b]? = some o := h
theorem bk_new (w : World) (o : Obj) : (w.alloc o).heap[w.heap.size]? = some o := Array.getElem?_push_size
theorem bk_set {w : World} {b : Nat} {cur : Array Value} {e : TypeId} (h : w.heap[b]? = some (.cells cur e (0, 0))) (i : Nat) (v : Value) : (w.setCell ⟨b, i, none⟩ v).heap[b]? = some (.cells (cur.setIfInBounds i v) e (0, 0)) := by
  simp [World.setCell, Array.getElem?_modify, h]
theorem bk_other {w : World} {b : Nat} {o : Obj} (h : w.heap[b]? = some o) {a : Addr} (hne : b ≠ a.block) (v : Value) : (w.setCell a v).heap[b]? = some o := by
  rw [RowKit.Below.heap_setCell _ _ _ _ hne]; exact h
theorem bk_free {w : World} {b : Nat} {cur : Array Value} {e : TypeId} (h : w.heap[b]? = some (.cells cur e (0, 0))) (i : Nat) : w.frozen? ⟨b, i, none⟩ = false := by
  simp [World.frozen?, h]
theorem row_shape {w : World} {B : Nat} {e : TypeId} {k : Nat} {v : Value} {n : Nat} {xs : List Value} (h : w.ownsRow B e k v n xs) : ∃ a c, v = .slice a n c := by
  rcases h.2 with ⟨e, h0⟩ | ⟨g, cap, cur, e, _⟩
  · exact ⟨none, 0, by rw [e, h0]⟩
  · exact ⟨_, _, e⟩
theorem row_same {w w' : World} {base : Nat} {e : TypeId} {size : Nat} {v : Value} {n : Nat} {xs : List Value} (h : w.ownsRow base e size v n xs) (hb : ∀ g, v.ownBlock = some g → w'.heap[g]? = w.heap[g]?) : w'.ownsRow base e size v n xs := by
  refine ⟨h.1, ?_⟩
  rcases h.2 with h2 | ⟨g, cap, cur, rfl, h1, h2, h3⟩
  · exact .inl h2
  · exact .inr ⟨g, cap, cur, rfl, h1, (hb g rfl).trans h2, h3⟩
theorem row_pur {w w' : World} {base : Nat} {e : TypeId} {size : Nat} {v : Value} {n : Nat} {xs : List Value} (h : w.ownsRow base e size v n xs) (hp : Pur w w') : w'.ownsRow base e size v n xs :=
  row_same h fun g hg => hp.block g (h.lt g hg).2
/-- a row that has something in it: where it lies, and its cells -/
theorem row_at {w : World} {base : Nat} {e : TypeId} {size : Nat} {v : Value} {n : Nat} {xs : List Value} (h : w.ownsRow base e size v n xs) (hn : 0 < n) :
    ∃ g c, v = .slice (some ⟨g, 0, none⟩) n c ∧ base ≤ g ∧ g < w.heap.size ∧ n ≤ c ∧ ∀ (j : Nat) u, xs[j]? = some u → w.cell? ⟨g, j, none⟩ = some u ∧ w.frozen? ⟨g, j, none⟩ = false := by
  rcases h.2 with ⟨_, h0⟩ | ⟨g, cap, cur, rfl, hb, hg, hnc, hcm, hcs, hx⟩
  · omega
  · refine ⟨g, cap, rfl, hb, (Array.getElem?_eq_some_iff.1 hg).1, hnc, fun j u hu => ⟨?_, bk_free hg j⟩⟩
    refine bk_cell hg j u ?_
    rw [← hx] at hu
    have hj := (List.getElem?_eq_some_iff.1 hu).1
    rw [List.length_take] at hj
    rw [List.getElem?_take_of_lt (by omega)] at hu
    rwa [Array.getElem?_toList] at hu
/-- nothing has turned but blocks of S -/
structure Chg (S : List Nat) (w w' : World) : Prop where
  os : w'.os = w.os
  tape : w'.tape = w.tape
  output : w'.output = w.output
  size : w.heap.size ≤ w'.heap.size
  block : ∀ k, k < w.heap.size → k ∉ S → w'.heap[k]? = w.heap[k]?
theorem Chg.refl (S : List Nat) (w : World) : Chg S w w := ⟨rfl, rfl, rfl, Nat.le_refl _, fun _ _ _ => rfl⟩
theorem Chg.of_pur {S : List Nat} {w w' : World} (h : Pur w w') : Chg S w w' := ⟨h.os, h.tape, h.output, h.size, fun k hk _ => h.block k hk⟩
theorem Chg.next {S S' : List Nat} {w w1 w2 : World} (h : Chg S w w1) (k : Chg S' w1 w2) (hs : ∀ b ∈ S', b ∈ S ∨ w.heap.size ≤ b) : Chg S w w2 :=
  ⟨k.os.trans h.os, k.tape.trans h.tape, k.output.trans h.output, Nat.le_trans h.size k.size, fun i hi hn =>
    (k.block i (Nat.lt_of_lt_of_le hi h.size) (fun hm => (hs i hm).elim hn (fun hm => by omega))).trans (h.block i hi hn)⟩
theorem Chg.trans {S : List Nat} {w w1 w2 : World} (h : Chg S w w1) (k : Chg S w1 w2) : Chg S w w2 := h.next k fun _ hb => .inl hb
theorem Chg.mono {S S' : List Nat} {w w1 : World} (h : Chg S w w1) (hs : ∀ b ∈ S, b ∈ S' ∨ w.heap.size ≤ b) : Chg S' w w1 :=
  ⟨h.os, h.tape, h.output, h.size, fun i hi hn => h.block i hi fun hm => (hs i hm).elim hn (fun hm => by omega)⟩
theorem Chg.pur {S : List Nat} {w w1 w2 : World} (h : Chg S w w1) (k : Pur w1 w2) : Chg S w w2 := h.trans (.of_pur k)
theorem Chg.setCell {S : List Nat} {w w1 : World} (h : Chg S w w1) {a : Addr} (ha : a.block ∈ S ∨ w.heap.size ≤ a.block) (v : Value) : Chg S w (w1.setCell a v) := by
  refine ⟨h.os, h.tape, h.output, by simp [World.setCell]; exact h.size, fun k hk hn => ?_⟩
  rw [RowKit.Below.heap_setCell _ _ _ _ (fun e => by subst e; exact ha.elim hn (fun h => by omega))]
  exact h.block k hk hn
theorem Chg.alloc {S : List Nat} {w w1 : World} (h : Chg S w w1) (o : Obj) : Chg S w (w1.alloc o) := h.pur ((Pur.refl w1).alloc o)
theorem Chg.drew {S : List Nat} {w w1 : World} (h : Chg S w w1) : Chg S w w1.drew := h.pur ((Pur.refl w1).drew)
theorem Chg.grown {S : List Nat} {w w1 w2 : World} (h : Chg S w w1) {r : Option Nat} (k : w1.grownBy w2 r) (hr : ∀ b, r = some b → b ∈ S ∨ w.heap.size ≤ b) : Chg S w w2 :=
  h.next (S' := r.toList) ⟨k.os, k.tape, k.output, k.size, fun i hi hn => k.block i hi (fun e => hn (by rw [← e]; simp))⟩ (fun b hb => hr b (by simpa using hb))
/-- where nothing old is among what may turn -/
theorem Chg.to_pur {S : List Nat} {w w' : World} (h : Chg S w w') (hs : ∀ b ∈ S, w.heap.size ≤ b) : Pur w w' :=
  ⟨h.os, h.tape, h.output, h.size, fun k hk => h.block k hk fun hm => by have := hs k hm; omega⟩
theorem bk_chg {S : List Nat} {w w' : World} {b : Nat} {o : Obj} (h : w.heap[b]? = some o) (hc : Chg S w w') (hb : b ∉ S) : w'.heap[b]? = some o := (hc.block b (bk_lt h) hb).trans h
theorem row_chg {S : List Nat} {w w' : World} {base : Nat} {e : TypeId} {size : Nat} {v : Value} {n : Nat} {xs : List Value} (h : w.ownsRow base e size v n xs) (hc : Chg S w w') (hb : ∀ g, v.ownBlock = some g → g ∉ S) : w'.ownsRow base e size v n xs :=
  row_same h fun g hg => hc.block g (h.lt g hg).2 (hb g hg)
end Go.Proofs.YtigfcchblfnnbaaGreatDoor
namespace Go.Proofs.YtigfcchblfnnbaaGreatDoor
open Go Go.RowKit
set_option linter.all false
section
variable {P : Program} {ops : Array Oper} {md : Region.Mode} {C : World → Prop}
/-- up to the tail: only operations ahead of place n come up, each quiet in the class -/
def headQ (P : Program) (md : Region.Mode) (ops : Array Oper) (C : World → Prop) (n : Nat) (L : Array Bool → Act → Prop) : Nat → Array Bool → Act → Prop
  | 0, s, a => L s a
  | f + 1, s, a => Region.ready md ops s ≠ [] ∧ ∀ i, i ∈ Region.ready md ops s → i < n ∧ qOp P ops C i (fun a' => headQ P md ops C n L f (s.setIfInBounds i true) a') a
theorem headQ_any {n g : Nat} {L : Array Bool → Act → Prop} {Q' : Exit → Act → World → Prop} (hL : ∀ s a w, C w → L s a → wpAny P md ops Q' g s a w) (f : Nat) :
    ∀ (s : Array Bool) (a : Act) (w : World), C w → headQ P md ops C n L f s a → wpAny P md ops Q' (f + g) s a w := by
  induction f with
  | zero => intro s a w hw h; rw [Nat.zero_add]; exact hL s a w hw h
  | succ f ih =>
    intro s a w hw h
    rw [Nat.succ_add]
    refine ⟨fun h0 => absurd h0 h.1, fun i hi => ?_⟩
    exact wpOp_of_qOp hw (fun a' w' hw' hk => ih _ a' w' hw' hk) (h.2 i hi).2
theorem headQ_first {n i : Nat} {oi : Oper} {v : Value} {L : Array Bool → Act → Prop} (hi : ops[i]? = some oi) (hsel : ∀ (j : Nat) (o : Oper) cs b, ops[j]? = some o → o.op ≠ .select cs b)
    (hs : Region.sinkB md ops n = true) (hc : Region.chainB md ops n = true) (hn : n < ops.size) (hin : i < n)
    (hdone : ∀ s a, L s a → ∀ j ∈ Region.ready md ops s, n ≤ j) (f : Nat) :
    ∀ (s : Array Bool) (a : Act), HeadInv md ops n s →
      (∀ j oj, ops[j]? = some oj → j ≠ i → s.getD j true = false → (∀ e ∈ oj.after, Region.binds md e = true → e.on ≠ i) → oi.apart ops oj = true) →
      i ∈ Region.ready md ops s → YieldsIn P ops C oi v a →
      headQ P md ops C n L f (s.setIfInBounds i true) (a.put oi.dst v) → headQ P md ops C n L (f + 1) s a := by
  induction f with
  | zero =>
    intro s a inv _ hr hy H
    have hun : s.getD i true = false := (mem_ready.1 hr).1
    refine ⟨List.ne_nil_of_mem hr, fun j hj => ?_⟩
    have hjn : j < n := Nat.lt_of_not_le fun h => absurd hj (tail_waits hs hc hn inv _ i rfl hin hun j h)
    refine ⟨hjn, ?_⟩
    by_cases hji : j = i
    · subst hji; exact hy.qOp hi H
    · have := hdone _ _ H j (ready_mono hj hji)
      omega
  | succ f ih =>
    intro s a inv hfree hr hy H
    have hun : s.getD i true = false := (mem_ready.1 hr).1
    refine ⟨List.ne_nil_of_mem hr, fun j hj => ?_⟩
    have hjn : j < n := Nat.lt_of_not_le fun h => absurd hj (tail_waits hs hc hn inv _ i rfl hin hun j h)
    refine ⟨hjn, ?_⟩
    by_cases hji : j = i
    · subst hji; exact hy.qOp hi H
    obtain ⟨hjun, oj, hoj, hall⟩ := mem_ready.1 hj
    have hnot : ∀ e ∈ oj.after, Region.binds md e = true → e.on ≠ i := by
      intro e he hb heq
      have h1 := hall e he hb
      rw [heq, getD_both hun] at h1
      cases h1
    have h2 := qOp_put hoj (hfree j oj hoj hji hjun hnot) (fun cs b => hsel i oi cs b hi) (fun cs b => hsel j oj cs b hoj) hy (H.2 j (ready_mono hj hji)).2
    refine qOp_mono (fun a' h3 => ih (s.setIfInBounds j true) a' (inv.set hj hjn) ?_ (ready_mono hr (Ne.symm hji)) h3.1 (by rw [Array.setIfInBounds_comm _ _ hji]; exact h3.2)) h2
    intro k ok hk hki hun' hno
    refine hfree k ok hk hki ?_ hno
    by_cases hjk : j = k
    · rw [← hjk]; exact hjun
    · rwa [getD_set_ne true hjk] at hun'
theorem headQ_lex {n g : Nat} {Lq : Act → Prop} (hsel : Region.noSelect ops = true) (hs : Region.sinkB md ops n = true) (hc : Region.chainB md ops n = true) (hn : n < ops.size) :
    ∀ (l : List Oper) (k : Nat) (s : Array Bool) (a : Act), (∀ j, j < l.length → l[j]? = ops[k + j]?) → k + l.length = n → HeadInv md ops n s →
    Region.lexHead md ops g l.length k s = true → wpQuiet P ops C Lq l a →
    headQ P md ops C n (fun s' a' => Region.seqB md ops g n s' = true ∧ Lq a') l.length s a
  | [], k, s, a, _, hk, _, hB, h => by
    obtain rfl : k = n := hk
    exact ⟨hB, h⟩
  | o :: l, k, s, a, hl, hk, inv, hB, h => by
    have h0 : ops[k]? = some o := (hl 0 (Nat.succ_pos _)).symm
    simp only [List.length_cons, Region.lexHead, Bool.and_eq_true] at hB
    obtain ⟨⟨hr, hf⟩, hB'⟩ := hB
    rw [List.length_cons] at hk
    have hr' : k ∈ Region.ready md ops s := by simpa using hr
    have hq : qOp P ops C k (fun a' => wpQuiet P ops C Lq l a') a := by unfold qOp; simp only [h0]; exact h
    obtain ⟨v, hy, hK⟩ := yieldsIn_of_qOp h0 hq
    refine headQ_first h0 (Region.noSelect_spec hsel) hs hc hn (by omega) (fun s' a' hL => seqB_ready hL.1) l.length s a inv (Region.free_spec h0 hf) hr' hy ?_
    refine headQ_lex hsel hs hc hn l (k + 1) _ _ (fun j hj => ?_) (by omega) (inv.set hr' (by omega)) hB' hK
    have := hl (j + 1) (by rw [List.length_cons]; omega)
    rw [List.getElem?_cons_succ] at this
    rw [this]
    congr 1
    omega
/-- THE LAW: n operations quiet in the class, in the order of the text; the others behind them one by one, from every world of the class. -/
theorem wp_region_quiet_tail {id : Nat} {Q : Exit → Act → World → Prop} {a : Act} {w : World} {l : List Oper} (n : Nat) (hm : P.follows .mixedOrders = true) (hB : Region.lexTailB .any l.toArray n = true) (hC : C w.drew)
    (h : wpQuiet P l.toArray C (fun a' => ∀ w', C w' → wpList P l.toArray Q (l.drop n) a' w') (l.take n) a) : (Code.region id l.toArray true).wp P Q a w := by
  simp only [Region.lexTailB, Bool.and_eq_true, decide_eq_true_eq] at hB
  obtain ⟨⟨⟨⟨hsel, hn⟩, hs⟩, hc⟩, hlex⟩ := hB
  have hn' : n < l.length := by simpa using hn
  have htl : (l.take n).length = n := by rw [List.length_take]; omega
  have hdl : (l.drop n).length = l.toArray.size - n := by simp
  have inv0 : HeadInv .any l.toArray n (Array.replicate l.toArray.size false) :=
    ⟨by simp, fun j oj _ hl => (by rw [getD_replicate_false] at hl; cases hl), fun t _ ht => getD_in (by simpa using ht) (getD_replicate_false _ _)⟩
  have H := headQ_lex (md := .any) (g := l.toArray.size - n) (P := P) (C := C) hsel hs hc hn (l.take n) 0 _ a (fun j hj => by
    rw [htl] at hj
    simp [hj]) (by rw [htl]; omega) inv0 (by rw [htl]; exact hlex) h
  refine wp_region_any hm ?_
  have hfin := headQ_any (Q' := Q) (g := l.toArray.size - n) (fun s a' w' hw' (hL : _ ∧ _) => by
    have := wpAny_of_seq (P := P) (md := .any) (Q' := Q) (l.drop n) n s a' w' (fun j => by simp [List.getElem?_drop]) (by rw [hdl]; exact hL.1) (hL.2 w' hw')
    rwa [hdl] at this) _ _ _ w.drew hC H
  rw [htl, show n + (l.toArray.size - n) = l.toArray.size by omega] at hfin
  exact hfin
/-- The same in the class of the worlds in which nothing old has turned. -/
theorem wp_region_pur_tail {id : Nat} {Q : Exit → Act → World → Prop} {a : Act} {w : World} {l : List Oper} (n : Nat) (hm : P.follows .mixedOrders = true) (hB : Region.lexTailB .any l.toArray n = true)
    (h : wpQuiet P l.toArray (fun w' => ∃ x : PW w, w' = x.to) (fun a' => ∀ w', Pur w w' → wpList P l.toArray Q (l.drop n) a' w') (l.take n) a) : (Code.region id l.toArray true).wp P Q a w := by
  refine wp_region_quiet_tail (C := fun w' => ∃ x : PW w, w' = x.to) n hm hB ⟨⟨_, (Pur.refl w).drew⟩, rfl⟩ ?_
  have : (fun a' => ∀ w', (∃ x : PW w, w' = x.to) → wpList P l.toArray Q (l.drop n) a' w') = (fun a' => ∀ w', Pur w w' → wpList P l.toArray Q (l.drop n) a' w') := by
    funext a'
    exact propext ⟨fun h w' hw => h w' ⟨⟨w', hw⟩, rfl⟩, fun h w' ⟨x, hx⟩ => h w' (hx ▸ x.pur)⟩
  rw [this]
  exact h
/-! ### The same, with some moves taken ahead of all else (what an append at the tail reads) -/
end
end Go.Proofs.YtigfcchblfnnbaaGreatDoor
namespace Go.Proofs.YtigfcchblfnnbaaGreatDoor
open Go Go.RowKit
set_option linter.all false
section
variable {P : Program} {ops : Array Oper} {Q : Exit → Act → World → Prop} {md : Region.Mode} {T : World → Prop} {d : Nat}
/-- whatever order is picked from here on; T holds behind every operation, till d is done -/
def wpAnyU (P : Program) (md : Region.Mode) (ops : Array Oper) (Q : Exit → Act → World → Prop) (T : World → Prop) (d : Nat) : Nat → Array Bool → Act → World → Prop
  | 0, s, a, w => Region.ready md ops s = [] ∧ Q .normal a w
  | f + 1, s, a, w =>
    (Region.ready md ops s = [] → Q .normal a w) ∧
    ∀ i ∈ Region.ready md ops s, wpOp P ops Q i (fun a' w' => ((s.setIfInBounds i true).getD d true = false → T w') ∧ wpAnyU P md ops Q T d f (s.setIfInBounds i true) a' w') a w
theorem wpAny_of_until : ∀ (f : Nat) (s : Array Bool) (a : Act) (w : World), wpAnyU P md ops Q T d f s a w → wpAny P md ops Q f s a w
  | 0, _, _, _, h => h
  | f + 1, _, _, _, h => ⟨h.1, fun i hi => wpOp_mono (fun _ _ h' => wpAny_of_until f _ _ _ h'.2) (h.2 i hi)⟩
theorem wpAnyU_first {i : Nat} {oi : Oper} {v : Value} (hi : ops[i]? = some oi) (hsel : ∀ (j : Nat) (o : Oper) cs b, ops[j]? = some o → o.op ≠ .select cs b)
    (hQ : ∀ c a w, Q (.panic c) (a.put oi.dst v) w → Q (.panic c) a w) (hd : Region.waitsFor md ops d i = true) :
    ∀ (f : Nat) (s : Array Bool) (a : Act) (w : World),
      (∀ j oj, ops[j]? = some oj → j ≠ i → s.getD j true = false → (∀ e ∈ oj.after, Region.binds md e = true → e.on ≠ i) → oi.apart ops oj = true) →
      i ∈ Region.ready md ops s → YieldsIf P ops T oi v a → T w → s.getD d true = false →
      wpAnyU P md ops Q T d f (s.setIfInBounds i true) (a.put oi.dst v) w → wpAnyU P md ops Q T d (f + 1) s a w := by
  obtain ⟨od, hod, e0, he0, hb0, hon0⟩ := Region.waitsFor_spec hd
  intro f
  induction f with
  | zero =>
    intro s a w _ hr hy hT hsd H
    refine ⟨fun h => (by rw [h] at hr; cases hr), fun j hj => ?_⟩
    by_cases hji : j = i
    · subst hji; exact hy.wpOp hi hT ⟨fun _ => hT, H⟩
    · have := ready_mono hj hji
      rw [H.1] at this
      cases this
  | succ f ih =>
    intro s a w hfree hr hy hT hsd H
    refine ⟨fun h => (by rw [h] at hr; cases hr), fun j hj => ?_⟩
    by_cases hji : j = i
    · subst hji; exact hy.wpOp hi hT ⟨fun _ => hT, H⟩
    · have h1 := H.2 j (ready_mono hj hji)
      obtain ⟨hjun, oj, hoj, hall⟩ := mem_ready.1 hj
      have hnot : ∀ e ∈ oj.after, Region.binds md e = true → e.on ≠ i := fun e he hb heq => by
        have h1 := hall e he hb
        have h0 := (mem_ready.1 hr).1
        rw [heq] at h1
        rcases Nat.lt_or_ge i s.size with h' | h'
        · simp [h'] at h0 h1; rw [h0] at h1; cases h1
        · simp [Array.getElem?_eq_none h'] at h1
      have hjd : j ≠ d := fun e => by
        subst e
        rw [hoj] at hod
        cases hod
        exact hnot e0 he0 hb0 hon0
      have hid : i ≠ d := fun e => by
        subst e
        rw [hi] at hod
        cases hod
        obtain ⟨h0, o2, ho2, hall2⟩ := mem_ready.1 hr
        rw [hi] at ho2
        cases ho2
        have h3 := hall2 e0 he0 hb0
        rw [hon0] at h3
        rcases Nat.lt_or_ge i s.size with h' | h'
        · simp [h'] at h0 h3; rw [h0] at h3; cases h3
        · simp [Array.getElem?_eq_none h'] at h3
      have h2 := wpOp_putIf hoj (hfree j oj hoj hji hjun hnot) (fun cs b => hsel i oi cs b hi) (fun cs b => hsel j oj cs b hoj) hQ hy h1
      have hfree' : ∀ k ok, ops[k]? = some ok → k ≠ i → (s.setIfInBounds j true).getD k true = false →
          (∀ e ∈ ok.after, Region.binds md e = true → e.on ≠ i) → oi.apart ops ok = true := fun k ok hk hki hun hno => by
        refine hfree k ok hk hki ?_ hno
        by_cases hjk : j = k
        · subst hjk; exact hjun
        · rw [getD_set_ne true hjk] at hun; exact hun
      have hs1 : (s.setIfInBounds j true).getD d true = false := by rw [getD_set_ne true hjd]; exact hsd
      have hs2 : ((s.setIfInBounds i true).setIfInBounds j true).getD d true = false := by rw [getD_set_ne true hjd, getD_set_ne true hid]; exact hsd
      refine wpOp_mono (fun a' w' h3 => ⟨fun _ => h3.2.1 hs2, ih (s.setIfInBounds j true) a' w' hfree' (ready_mono hr (Ne.symm hji)) h3.1 (h3.2.1 hs2) hs1 ?_⟩) h2
      rw [Array.setIfInBounds_comm _ _ hji]
      exact h3.2.2
/-- number i is taken first -/
theorem wpAnyU_take {i : Nat} {oi : Oper} {v : Value} {f : Nat} {s : Array Bool} {a : Act} {w : World} (hi : ops[i]? = some oi)
    (hs : Region.noSelect ops = true) (hf : Region.free md ops s i = true) (hr : (Region.ready md ops s).contains i = true) (hd : Region.waitsFor md ops d i = true) (hsd : s.getD d true = false)
    (hQ : ∀ c a w, Q (.panic c) (a.put oi.dst v) w → Q (.panic c) a w) (hy : YieldsIf P ops T oi v a) (hT : T w)
    (h : wpAnyU P md ops Q T d f (s.setIfInBounds i true) (a.put oi.dst v) w) : wpAnyU P md ops Q T d (f + 1) s a w :=
  wpAnyU_first hi (Region.noSelect_spec hs) hQ hd f s a w (Region.free_spec hi hf) (by simpa using hr) hy hT hsd h
/-- number i alone comes up; behind it T is shown anew -/
theorem wpAnyU_next {i : Nat} {o : Oper} {f : Nat} {s : Array Bool} {a : Act} {w : World} (hr : Region.ready md ops s = [i]) (ho : ops[i]? = some o)
    (h : ∀ K' : Act → World → Prop, Shut (∀ a w, T w → (T w → wpAnyU P md ops Q T d f (s.setIfInBounds i true) a w) → K' a w) → if Region.wanted o (yielded ops a.tmps) = true then Oper.wp P o a w K' Q else K' (a.put o.dst undef) w) :
    wpAnyU P md ops Q T d (f + 1) s a w := by
  refine ⟨fun h0 => (by rw [hr] at h0; cases h0), fun j hj => ?_⟩
  rw [hr] at hj
  have : j = i := by simpa using hj
  subst this
  exact wpOp_step ho (fun K' hK => h K' (fun a w hT hW => hK a w ⟨fun _ => hT, hW hT⟩))
theorem wpAnyU_of_any : ∀ (f : Nat) (s : Array Bool) (a : Act) (w : World), s.getD d true = true → wpAny P md ops Q f s a w → wpAnyU P md ops Q T d f s a w
  | 0, _, _, _, _, h => h
  | f + 1, s, _, _, hs, h => ⟨h.1, fun i hi => wpOp_mono (fun _ _ h' => by
      have hs' : (s.setIfInBounds i true).getD d true = true := by
        by_cases hid : i = d
        · subst hid
          rcases Nat.lt_or_ge i s.size with h' | h'
          · simp [h']
          · simp [Array.getElem?_eq_none, h']
        · rw [getD_set_ne true hid]; exact hs
      exact ⟨fun h0 => (by rw [hs'] at h0; cases h0), wpAnyU_of_any f _ _ _ hs' h'⟩) (h.2 i hi)⟩
/-- from d on one by one -/
theorem wpAnyU_tail {l : List Oper} {s : Array Bool} {a : Act} {w : World} (d : Nat) (hB : Region.seqB md l.toArray (l.drop d).length d s = true) (h : wpList P l.toArray Q (l.drop d) a w) : wpAnyU P md l.toArray Q T d (l.drop d).length s a w := by
  have h1 := wpAny_of_seq (P := P) (md := md) (Q' := Q) (l.drop d) d s a w (fun j => by simp [List.getElem?_drop]) hB h
  generalize hn : (l.drop d).length = n at *
  cases n with
  | zero => exact h1
  | succ n =>
    refine ⟨h1.1, fun i hi => ?_⟩
    have hid : i = d := by
      simp only [Region.seqB, Bool.and_eq_true, decide_eq_true_eq] at hB
      rw [hB.1] at hi
      simpa using hi
    have h2 := h1.2 i hi
    subst hid
    have hs' : (s.setIfInBounds i true).getD i true = true := by
      rcases Nat.lt_or_ge i s.size with h' | h'
      · simp [h']
      · simp [Array.getElem?_eq_none, h']
    exact wpOp_mono (fun _ _ h' => ⟨fun h0 => (by rw [hs'] at h0; cases h0), wpAnyU_of_any n _ _ _ hs' h'⟩) h2
/-- THE LAW's beginning. -/
theorem wp_region_until {id : Nat} {a : Act} {w : World} {l : List Oper} (d : Nat) (hm : P.follows .mixedOrders = true) (hT : T w.drew)
    (h : T w.drew → wpAnyU P .any l.toArray Q T d l.length (Array.replicate l.length false) a w.drew) : (Code.region id l.toArray true).wp P Q a w := by
  have := h hT
  have h2 := wpAny_of_until _ _ _ _ this
  exact wp_region_any hm (by simpa using h2)
end
end Go.Proofs.YtigfcchblfnnbaaGreatDoor
namespace Go.Proofs.YtigfcchblfnnbaaGreatDoor
open Go Go.RowKit
set_option linter.all false
section
variable {P : Program} {ops : Array Oper} {Q : Exit → Act → World → Prop} {md : Region.Mode} {T : World → Prop} {d : Nat}
/-- two come up now -/
theorem wpAnyU_two {i j : Nat} {o o2 : Oper} {f : Nat} {s : Array Bool} {a : Act} {w : World} (hr : Region.ready md ops s = [i, j]) (ho : ops[i]? = some o) (ho2 : ops[j]? = some o2)
    (h : ∀ K' : Act → World → Prop, Shut (∀ a w, T w → (T w → wpAnyU P md ops Q T d f (s.setIfInBounds i true) a w) → K' a w) → if Region.wanted o (yielded ops a.tmps) = true then Oper.wp P o a w K' Q else K' (a.put o.dst undef) w)
    (h2 : ∀ K' : Act → World → Prop, Shut (∀ a w, T w → (T w → wpAnyU P md ops Q T d f (s.setIfInBounds j true) a w) → K' a w) → if Region.wanted o2 (yielded ops a.tmps) = true then Oper.wp P o2 a w K' Q else K' (a.put o2.dst undef) w) :
    wpAnyU P md ops Q T d (f + 1) s a w := by
  refine ⟨fun h0 => (by rw [hr] at h0; cases h0), fun k hk => ?_⟩
  rw [hr] at hk
  rcases List.mem_cons.1 hk with e | e
  · subst e
    exact wpOp_step ho (fun K' hK => h K' (fun a w hT hW => hK a w ⟨fun _ => hT, hW hT⟩))
  · have : k = j := by simpa using e
    subst this
    exact wpOp_step ho2 (fun K' hK => h2 K' (fun a w hT hW => hK a w ⟨fun _ => hT, hW hT⟩))
end
end Go.Proofs.YtigfcchblfnnbaaGreatDoor
