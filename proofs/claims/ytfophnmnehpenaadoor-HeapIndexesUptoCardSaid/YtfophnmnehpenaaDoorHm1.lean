/- Layer 8: the heap's state, as plain data and as it lies in memory. -/
import Derived.Test.YtfophnmnehpenaaDoorChecked
import Derived.Test.YtfophnmnehpenaaDoorBase
import Derived.Test.YtfophnmnehpenaaDoorHpPure
import Derived.Maps.OwnSet
import Derived.Laws.AppendOwn
namespace Go.Proofs.YtfophnmnehpenaaDoor
open Go Go.RowKit
set_option linter.all false
/-- a value -/
structure Va where
  kind : Int
  num : Nat
  text : List UInt8
  ref : Int
def Va.cells (x : Va) : List Value := [.int .i64 x.kind, .float .f64 x.num, .string ⟨x.text.toArray⟩, .int .i64 x.ref]
def Va.v (x : Va) : Value := .agg x.cells.toArray
def Va.zero : Va := ⟨0, 0, [], 0⟩
def vaOf : Value → Option Va
  | .agg cs => match cs.toList with
    | [.int .i64 k, .float .f64 n, .string t, .int .i64 r] => some ⟨k, n, t.data.toList, r⟩
    | _ => none
  | _ => none
theorem vaOf_v (x : Va) : vaOf x.v = some x := by simp [vaOf, Va.v, Va.cells]
theorem vaOf_inv {v : Value} {x : Va} (h : vaOf v = some x) : v = x.v := by
  unfold vaOf at h
  split at h
  · next cs =>
    split at h
    · next k n t r e =>
      cases h
      have : cs = #[.int .i64 k, .float .f64 n, .string t, .int .i64 r] := by
        apply Array.toList_inj.1
        rw [e]
      rw [this]
      simp [Va.v, Va.cells]
    · cases h
  · cases h
/-- how a value in a map reads -/
def RV (v : Value) : Option (DataW Va × List MemPlace) := (vaOf v).map fun x => (.held x, [])
theorem RV_v (x : Va) : RV x.v = some (.held x, []) := by simp [RV, vaOf_v]
theorem RV_inv {v : Value} {x : Va} {ps : List MemPlace} (h : RV v = some (.held x, ps)) : v = x.v := by
  unfold RV at h
  obtain ⟨y, hy, e⟩ := Option.map_eq_some_iff.1 h
  cases e
  exact vaOf_inv hy
/-- an object -/
structure Ob where
  kind : Int
  proto : Int
  a : Int
  b : Int
  scope : Int
  keys : List (List UInt8)
  props : List UInt8 → Option Va
  items : List Va
/-- block m of w is a map of at most n entries that says what f says -/
def MapAt (w : World) (m n : Nat) (f : List UInt8 → Option Va) : Prop :=
  ∃ D, w.ownsMap Tryd.prog 9 RV m n D ∧ ∀ k, Maps.has D (.string k) = (f k).isSome ∧ ∀ z, D.atKey (.string k) z = ((f k).map DataW.held).getD z
def upd (f : List UInt8 → Option Va) (k : List UInt8) (x : Option Va) : List UInt8 → Option Va := fun k' => if k' = k then x else f k'
theorem World.ownsMap_same {H : Type} {P : Program} {k : TypeId} {R : Value → Option (DataW H × List MemPlace)} {w w' : World} {b n : Nat} {D : DataW H} (h : w.ownsMap P k R b n D) (e : w'.heap[b]? = w.heap[b]?) : w'.ownsMap P k R b n D := by
  obtain ⟨es, clock, hb, F, hs, hD⟩ := h
  exact ⟨es, clock, e.trans hb, F, hs, hD⟩
theorem World.ownsMap_tight {H : Type} {P : Program} {k : TypeId} {R : Value → Option (DataW H × List MemPlace)} {w : World} {b n : Nat} {D : DataW H} (h : w.ownsMap P k R b n D) : w.ownsMap P k R b (Maps.size D) D := by
  obtain ⟨es, clock, hb, F, hs, rfl⟩ := h
  exact ⟨es, clock, hb, F, by simp [Maps.size, length_sorted], rfl⟩
theorem World.ownsRow_same {w w' : World} {base : Nat} {e : TypeId} {size : Nat} {v : Value} {n : Nat} {xs : List Value} (h : w.ownsRow base e size v n xs) (hb : ∀ g, v.ownBlock = some g → w'.heap[g]? = w.heap[g]?) : w'.ownsRow base e size v n xs := by
  refine ⟨h.1, ?_⟩
  rcases h.2 with h2 | ⟨g, cap, cur, rfl, h1, h2, h3⟩
  · exact .inl h2
  · exact .inr ⟨g, cap, cur, rfl, h1, (hb g rfl).trans h2, h3⟩
theorem key_lit {k : List UInt8} (h : k.length ≤ maxLen) : Go.keyOf Tryd.prog 9 (.string ⟨k.toArray⟩) = some (.string k) :=
  Go.WideMaps.keyOf_string_mk Tryd.underlying9 (by show k.toArray.size ≤ maxLen; simpa using h)
/-- where an object lies -/
structure Pl where
  o : Nat
  m : Nat
  kv : Value
  iv : Value
def Pl.blocks (p : Pl) : List Nat := p.o :: p.m :: (p.kv.ownBlock.toList ++ p.iv.ownBlock.toList)
def keyVs (ks : List (List UInt8)) : List Value := ks.map fun k => .string ⟨k.toArray⟩
structure ObIn (w : World) (p : Pl) (x : Ob) : Prop where
  own : w.heap[p.o]? = some (.cells #[.int .i64 x.kind, .int .i64 x.proto, .int .i64 x.a, .int .i64 x.b, .int .i64 x.scope, p.kv, .map (some p.m), p.iv] 78 (0, 0))
  keys : w.ownsRow 0 9 1 p.kv x.keys.length (keyVs x.keys)
  props : MapAt w p.m x.keys.length x.props
  items : w.ownsRow 0 33 4 p.iv x.items.length (x.items.flatMap Va.cells)
/-- a heap: where it lies, and what it holds -/
structure Hs where
  h : Nat
  ov : Value
  ps : List Pl
  left : Int
  xs : List Ob
def Hs.blocks (s : Hs) : List Nat := s.h :: (s.ov.ownBlock.toList ++ s.ps.flatMap Pl.blocks)
def ptrs (ps : List Pl) : List Value := ps.map fun p => .pointer (some ⟨p.o, 0, none⟩)
structure HpAt (w : World) (s : Hs) : Prop where
  own : w.heap[s.h]? = some (.cells #[s.ov, .int .i64 s.left] 72 (0, 0))
  row : w.ownsRow 0 74 1 s.ov s.ps.length (ptrs s.ps)
  len : s.xs.length = s.ps.length
  each : ∀ (i : Nat) (p : Pl) (x : Ob), s.ps[i]? = some p → s.xs[i]? = some x → ObIn w p x
  apart : s.blocks.Nodup
/-- nothing has turned but blocks of S -/
structure Chg (S : List Nat) (w w' : World) : Prop where
  os : w'.os = w.os
  tape : w'.tape = w.tape
  output : w'.output = w.output
  size : w.heap.size ≤ w'.heap.size
  block : ∀ k, k < w.heap.size → k ∉ S → w'.heap[k]? = w.heap[k]?
/-- a step of the heap -/
structure Step (w : World) (s : Hs) (w' : World) (s' : Hs) : Prop where
  chg : Chg s.blocks w w'
  h : s'.h = s.h
  new : ∀ b ∈ s'.blocks, b ∈ s.blocks ∨ w.heap.size ≤ b
theorem Step.refl (w : World) (s : Hs) : Step w s w s := ⟨⟨rfl, rfl, rfl, Nat.le_refl _, fun _ _ _ => rfl⟩, rfl, fun _ h => .inl h⟩
theorem Step.trans {w w1 w2 : World} {s s1 s2 : Hs} (h : Step w s w1 s1) (k : Step w1 s1 w2 s2) : Step w s w2 s2 :=
  ⟨⟨k.chg.os.trans h.chg.os, k.chg.tape.trans h.chg.tape, k.chg.output.trans h.chg.output, Nat.le_trans h.chg.size k.chg.size, fun i hi hn =>
    (k.chg.block i (Nat.lt_of_lt_of_le hi h.chg.size) (fun hm => (h.new i hm).elim hn (fun hm => by omega))).trans (h.chg.block i hi hn)⟩,
    k.h.trans h.h, fun b hb => (k.new b hb).elim (h.new b) (fun hm => .inr (Nat.le_trans h.chg.size hm))⟩
theorem MapAt.same {w w' : World} {m n : Nat} {f : List UInt8 → Option Va} (h : MapAt w m n f) (e : w'.heap[m]? = w.heap[m]?) : MapAt w' m n f := by
  obtain ⟨D, h1, h2⟩ := h
  exact ⟨D, World.ownsMap_same h1 e, h2⟩
theorem MapAt.lt {w : World} {m n : Nat} {f : List UInt8 → Option Va} (h : MapAt w m n f) : m < w.heap.size := by
  obtain ⟨D, h1, h2⟩ := h
  exact h1.lt
theorem ObIn.same {w w' : World} {p : Pl} {x : Ob} (h : ObIn w p x) (e : ∀ b ∈ p.blocks, w'.heap[b]? = w.heap[b]?) : ObIn w' p x :=
  ⟨(e p.o (by simp [Pl.blocks])).trans h.own, World.ownsRow_same h.keys (fun g hg => e g (by simp [Pl.blocks, hg])), h.props.same (e p.m (by simp [Pl.blocks])), World.ownsRow_same h.items (fun g hg => e g (by simp [Pl.blocks, hg]))⟩
theorem mem_blocks {s : Hs} {p : Pl} (hp : p ∈ s.ps) {b : Nat} (hb : b ∈ p.blocks) : b ∈ s.blocks := by
  unfold Hs.blocks
  exact List.mem_cons_of_mem _ (List.mem_append_right _ (List.mem_flatMap.2 ⟨p, hp, hb⟩))
theorem HpAt.same {w w' : World} {s : Hs} (h : HpAt w s) (e : ∀ b ∈ s.blocks, w'.heap[b]? = w.heap[b]?) : HpAt w' s :=
  ⟨(e s.h (by simp [Hs.blocks])).trans h.own, World.ownsRow_same h.row (fun g hg => e g (by simp [Hs.blocks, hg])), h.len,
    fun i p x hp hx => (h.each i p x hp hx).same (fun b hb => e b (mem_blocks (List.mem_of_getElem? hp) hb)), h.apart⟩
theorem ObIn.lt {w : World} {p : Pl} {x : Ob} (h : ObIn w p x) : ∀ b ∈ p.blocks, b < w.heap.size := by
  intro b hb
  unfold Pl.blocks at hb
  rcases List.mem_cons.1 hb with rfl | hb
  · exact (Array.getElem?_eq_some_iff.1 h.own).1
  rcases List.mem_cons.1 hb with rfl | hb
  · exact h.props.lt
  rcases List.mem_append.1 hb with hb | hb
  · exact (h.keys.lt b (by simpa using hb)).2
  · exact (h.items.lt b (by simpa using hb)).2
theorem HpAt.lt {w : World} {s : Hs} (h : HpAt w s) : ∀ b ∈ s.blocks, b < w.heap.size := by
  intro b hb
  unfold Hs.blocks at hb
  rcases List.mem_cons.1 hb with rfl | hb
  · exact (Array.getElem?_eq_some_iff.1 h.own).1
  rcases List.mem_append.1 hb with hb | hb
  · exact (h.row.lt b (by simpa using hb)).2
  · obtain ⟨p, hp, hb⟩ := List.mem_flatMap.1 hb
    obtain ⟨i, hi⟩ := List.mem_iff_getElem?.1 hp
    have hl := (List.getElem?_eq_some_iff.1 hi).1
    have hl' : i < s.xs.length := by rw [h.len]; exact hl
    exact (h.each i p _ hi (List.getElem?_eq_getElem hl')).lt b hb
theorem HpAt.pur {w w' : World} {s : Hs} (h : HpAt w s) (hp : Pur w w') : HpAt w' s := h.same fun b hb => hp.block b (h.lt b hb)
theorem HpAt.kept {w w' : World} {s : Hs} {S : List Nat} (h : HpAt w s) (hc : Chg S w w') (hd : ∀ b ∈ s.blocks, b ∉ S) : HpAt w' s := h.same fun b hb => hc.block b (h.lt b hb) (hd b hb)
end Go.Proofs.YtfophnmnehpenaaDoor
