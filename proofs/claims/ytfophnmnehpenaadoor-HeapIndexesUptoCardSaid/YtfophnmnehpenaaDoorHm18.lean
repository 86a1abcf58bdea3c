/- Layer 8: an object's items turned. -/
import Derived.Test.YtfophnmnehpenaaDoorHm17
import Derived.Test.YtfophnmnehpenaaDoorAppZero
namespace Go.Proofs.YtfophnmnehpenaaDoor
open Go Go.RowKit
set_option linter.all false
theorem Chg.sub {S T : List Nat} {w w' : World} (h : Chg S w w') (hs : ∀ b ∈ S, b ∈ T) : Chg T w w' := ⟨h.os, h.tape, h.output, h.size, fun k hk hn => h.block k hk (fun hm => hn (hs k hm))⟩
theorem Chg.trans {S : List Nat} {w w1 w2 : World} (h : Chg S w w1) (k : Chg S w1 w2) : Chg S w w2 :=
  ⟨k.os.trans h.os, k.tape.trans h.tape, k.output.trans h.output, Nat.le_trans h.size k.size, fun i hi hn => (k.block i (Nat.lt_of_lt_of_le hi h.size) hn).trans (h.block i hi hn)⟩
theorem Chg.pur {w w' : World} (h : Pur w w') (S : List Nat) : Chg S w w' := ⟨h.os, h.tape, h.output, h.size, fun k hk _ => h.block k hk⟩
theorem Chg.grown {w w' : World} {r : Option Nat} (h : w.grownBy w' r) : Chg r.toList w w' := ⟨h.os, h.tape, h.output, h.size, fun k hk hn => h.block k hk (fun e => hn (by rw [← e]; simp))⟩
theorem Chg.set (w : World) (a : Addr) (v : Value) : Chg [a.block] w (w.setCell a v) := ⟨rfl, rfl, rfl, by simp [World.setCell], fun k _ hn => RowKit.Below.heap_setCell _ _ _ _ (by simpa using hn)⟩
theorem HpAt.items {w w2 : World} {s : Hs} (h : HpAt w s) {i : Nat} {p : Pl} {x : Ob} (hp : s.ps[i]? = some p) (hx : s.xs[i]? = some x) {v' : Value} {l : List Va}
    (hc : Chg (p.o :: p.iv.ownBlock.toList) w w2)
    (ho : w2.heap[p.o]? = some (.cells #[.int .i64 x.kind, .int .i64 x.proto, .int .i64 x.a, .int .i64 x.b, .int .i64 x.scope, p.kv, .map (some p.m), v'] 78 (0, 0)))
    (hv : w2.ownsRow 0 33 4 v' l.length (l.flatMap Va.cells)) (hid : ∀ b, v'.ownBlock = some b → p.iv.ownBlock = some b ∨ w.heap.size ≤ b) :
    HpAt w2 (s.turn i ⟨p.o, p.m, p.kv, v'⟩ { x with items := l }) ∧ Step w s w2 (s.turn i ⟨p.o, p.m, p.kv, v'⟩ { x with items := l }) := by
  have hob := h.each i p x hp hx
  have hnd := pl_nodup h hp
  have hlt := hob.lt
  unfold Pl.blocks at hnd
  simp only [List.nodup_cons, List.mem_cons, List.mem_append, not_or, Option.mem_toList] at hnd
  obtain ⟨⟨n1, n2, n3⟩, ⟨n4, n5⟩, n6⟩ := hnd
  rw [List.nodup_append] at n6
  obtain ⟨n7, n8, n9⟩ := n6
  have kk : ∀ g, p.kv.ownBlock = some g → w2.heap[g]? = w.heap[g]? := fun g hg => hc.block g (hlt g (by simp [Pl.blocks, hg])) (by
    simp only [List.mem_cons, Option.mem_toList, not_or]
    exact ⟨fun e => n2 (e ▸ hg), fun e => n9 g (by simp [hg]) g (by simpa using e) rfl⟩)
  refine h.turn hp hx (hc.sub fun b hb => ?_) ⟨ho, World.ownsRow_same hob.keys kk, hob.props.same (hc.block p.m (hlt p.m (by simp [Pl.blocks])) ?_), hv⟩ rfl ?_ ?_
  · rcases List.mem_cons.1 hb with rfl | hb
    · simp [Pl.blocks]
    · simp only [Pl.blocks, List.mem_cons, List.mem_append]; exact .inr (.inr (.inr hb))
  · simp only [List.mem_cons, Option.mem_toList, not_or]
    exact ⟨fun e => n1 e.symm, n5⟩
  · have f1 : ∀ b, v'.ownBlock = some b → b ≠ p.o ∧ b ≠ p.m ∧ p.kv.ownBlock ≠ some b := fun b hb => by
      rcases hid b hb with e | e
      · exact ⟨fun h => n3 (h ▸ e), fun h => n5 (h ▸ e), fun h => n9 b (by simp [h]) b (by simp [e]) rfl⟩
      · refine ⟨fun h => ?_, fun h => ?_, fun h => ?_⟩
        · have := hlt p.o (by simp [Pl.blocks]); omega
        · have := hlt p.m (by simp [Pl.blocks]); omega
        · have := hlt b (by simp [Pl.blocks, h]); omega
    unfold Pl.blocks
    simp only [List.nodup_cons, List.mem_cons, List.mem_append, not_or, Option.mem_toList, List.nodup_append]
    refine ⟨⟨n1, n2, fun e => (f1 _ e).1 rfl⟩, ⟨n4, fun e => (f1 _ e).2.1 rfl⟩, n7, by cases v'.ownBlock <;> simp, fun a ha b hb e => (f1 b hb).2.2 (by rw [← e]; exact ha)⟩
  · intro b hb
    simp only [Pl.blocks, List.mem_cons, List.mem_append, Option.mem_toList] at hb ⊢
    rcases hb with rfl | rfl | hb | hb
    · exact .inl (.inl rfl)
    · exact .inl (.inr (.inl rfl))
    · exact .inl (.inr (.inr (.inl hb)))
    · rcases hid b hb with e | e
      · exact .inl (.inr (.inr (.inr e)))
      · exact .inr e
/-- the items' slice turned, behind an operation that made it -/
theorem HpAt.slice {w w1 : World} {s : Hs} (h : HpAt w s) {i : Nat} {p : Pl} {x : Ob} (hp : s.ps[i]? = some p) (hx : s.xs[i]? = some x) {v' : Value} {l : List Va}
    (hg : w.grownBy w1 p.iv.ownBlock) (hv : w1.ownsRow 0 33 4 v' l.length (l.flatMap Va.cells)) (hid : ∀ b, v'.ownBlock = some b → p.iv.ownBlock = some b ∨ w.heap.size ≤ b) :
    HpAt (w1.setCell ⟨p.o, 7, none⟩ v') (s.turn i ⟨p.o, p.m, p.kv, v'⟩ { x with items := l }) ∧ Step w s (w1.setCell ⟨p.o, 7, none⟩ v') (s.turn i ⟨p.o, p.m, p.kv, v'⟩ { x with items := l }) := by
  have hob := h.each i p x hp hx
  have hnd := pl_nodup h hp
  have hlt := hob.lt
  unfold Pl.blocks at hnd
  simp only [List.nodup_cons, List.mem_cons, List.mem_append, not_or, Option.mem_toList] at hnd
  obtain ⟨⟨n1, n2, n3⟩, ⟨n4, n5⟩, n6⟩ := hnd
  have ho1 := (hg.block p.o (hlt p.o (by simp [Pl.blocks])) (fun e => n3 e.symm)).trans hob.own
  refine h.items hp hx (((Chg.grown hg).sub (T := p.o :: p.iv.ownBlock.toList) (fun b hb => List.mem_cons_of_mem _ hb)).trans ((Chg.set w1 ⟨p.o, 7, none⟩ v').sub (fun b hb => by simp at hb; simp [hb]))) (bk_set ho1 7 v') ?_ hid
  refine World.ownsRow_same hv fun g hg' => RowKit.Below.heap_setCell _ _ _ _ fun e => ?_
  simp only at e
  subst e
  rcases hid _ hg' with e | e
  · exact n3 e
  · have := hlt p.o (by simp [Pl.blocks]); omega
theorem grown_pur {w w' : World} (h : Pur w w') (r : Option Nat) : w.grownBy w' r := ⟨h.os, h.tape, h.output, h.size, fun k hk _ => h.block k hk⟩
theorem va_info' : (Tryd.prog.info? 33).map (fun i => (i.zero.map (·.cells), i.size, i.bytes)) = some (some Va.zero.cells.toArray, 4, 40) := by kernel_rfl
theorem zero_cells (m : Nat) : (Builtin.zeroCells Va.zero.cells.toArray m).toList = (List.replicate m Va.zero).flatMap Va.cells := by
  apply List.ext_getElem?
  intro j
  have hl : ((List.replicate m Va.zero).flatMap Va.cells).length = m * 4 := by rw [va_len, List.length_replicate]
  by_cases hj : j < m * 4
  · have hv := va_at (List.replicate m Va.zero) (j / 4) Va.zero (by rw [List.getElem?_replicate, if_pos (by omega)]) (j % 4) (Va.zero.cells[j % 4]'(Nat.mod_lt _ (by decide))) (List.getElem?_eq_getElem _)
    rw [show j / 4 * 4 + j % 4 = j by omega] at hv
    rw [hv]
    have hs : Va.zero.cells.toArray.size = 4 := rfl
    simp only [Builtin.zeroCells, hs, Array.getElem?_toList]
    rw [Array.getElem?_map, Array.getElem?_range, if_pos hj]
    simp only [Option.map_some]
    congr 1
    rw [getElem!_pos Va.zero.cells.toArray (j % 4) (Nat.mod_lt _ (by decide))]
    rfl
  · have hz : (Builtin.zeroCells Va.zero.cells.toArray m).toList.length = m * 4 := by simp [Builtin.zeroCells, Va.zero, Va.cells]
    rw [List.getElem?_eq_none (by rw [hz]; omega), List.getElem?_eq_none (by rw [hl]; omega)]
end Go.Proofs.YtfophnmnehpenaaDoor
