/- Laws of mine on blocks, that lean on no program: a block known whole; rows of the call's own; what has turned. -/
import Derived.Test.YtciigfaojmpoiaaGreatDoorBase
import Derived.Laws.AppendOwn
import Derived.Laws.AppendOwnNone
import Derived.Maps.AppendAt
import Derived.OwnWalk
namespace Go.Proofs.YtciigfaojmpoiaaGreatDoor
open Go Go.RowKit
set_option linter.all false
theorem bk_cell {w : World} {b : Nat} {cur : Array Value} {e : TypeId} (h : w.heap[b]? = some (.cells cur e (0, 0))) (i : Nat) (v : Value) (hv : cur[i]? = some v) : w.cell? ⟨b, i, none⟩ = some v := by
  rw [cell_of_row w _ i _ _ _ h]; exact hv
theorem bk_lt {w : World} {b : Nat} {o : Obj} (h : w.heap[b]? = some o) : b < w.heap.size := (Array.getElem?_eq_some_iff.1 h).1
theorem bk_pur {w w' : World} {b : Nat} {o : Obj} (h : w.heap[b]? = some o) (hp : Pur w w') : w'.heap[b]? = some o := (hp.block b (bk_lt h)).trans h
theorem bk_alloc {w : World} {b : Nat} {o : Obj} (h : w.heap[b]? = some o) (o' : Obj) : (w.alloc o').heap[b]? = some o := bk_pur h ((Pur.refl w).alloc o')
theorem bk_drew {w : World} {b : Nat} {o : Obj} (h : w.heap[b]? = some o) : w.drew.heap[b]? = some o := h
theorem bk_new (w : World) (o : Obj) : (w.alloc o).heap[w.heap.size]? = some o := Array.getElem?_push_size
theorem bk_set {w : World} {b : Nat} {cur : Array Value} {e : TypeId} (h : w.heap[b]? = some (.cells cur e (0, 0))) (i : Nat) (v : Value) : (w.setCell ⟨b, i, none⟩ v).heap[b]? = some (.cells (cur.setIfInBounds i v) e (0, 0)) := by
  simp [World.setCell, Array.getElem?_modify, h]
theorem bk_other {w : World} {b : Nat} {o : Obj} (h : w.heap[b]? = some o) {a : Addr} (hne : b ≠ a.block) (v : Value) : (w.setCell a v).heap[b]? = some o := by
  rw [RowKit.Below.heap_setCell _ _ _ _ hne]; exact h
theorem bk_free {w : World} {b : Nat} {cur : Array Value} {e : TypeId} (h : w.heap[b]? = some (.cells cur e (0, 0))) (i : Nat) : w.frozen? ⟨b, i, none⟩ = false := by
  simp [World.frozen?, h]
theorem row_shape {w : World} {B : Nat} {e : TypeId} {k : Nat} {v : Value} {n : Nat} {xs : List Value} (h : w.ownsRow B e k v n xs) : ∃ a c, v = .slice a n c := by
  rcases h.2 with ⟨e, h0⟩ | ⟨g, cap, cur, e, _⟩
  · exact ⟨none, 0, by rw [e, h0]⟩
  · exact ⟨_, _, e⟩
theorem row_same {w w' : World} {base : Nat} {e : TypeId} {size : Nat} {v : Value} {n : Nat} {xs : List Value} (h : w.ownsRow base e size v n xs) (hb : ∀ g, v.ownBlock = some g → w'.heap[g]? = w.heap[g]?) : w'.ownsRow base e size v n xs := by
  refine ⟨h.1, ?_⟩
  rcases h.2 with h2 | ⟨g, cap, cur, rfl, h1, h2, h3⟩
  · exact .inl h2
  · exact .inr ⟨g, cap, cur, rfl, h1, (hb g rfl).trans h2, h3⟩
theorem row_pur {w w' : World} {base : Nat} {e : TypeId} {size : Nat} {v : Value} {n : Nat} {xs : List Value} (h : w.ownsRow base e size v n xs) (hp : Pur w w') : w'.ownsRow base e size v n xs :=
  row_same h fun g hg => hp.block g (h.lt g hg).2
/-- a row that has something in it: where it lies, and its cells -/
theorem row_at {w : World} {base : Nat} {e : TypeId} {size : Nat} {v : Value} {n : Nat} {xs : List Value} (h : w.ownsRow base e size v n xs) (hn : 0 < n) :
    ∃ g c, v = .slice (some ⟨g, 0, none⟩) n c ∧ base ≤ g ∧ g < w.heap.size ∧ n ≤ c ∧ ∀ (j : Nat) u, xs[j]? = some u → w.cell? ⟨g, j, none⟩ = some u ∧ w.frozen? ⟨g, j, none⟩ = false := by
  rcases h.2 with ⟨_, h0⟩ | ⟨g, cap, cur, rfl, hb, hg, hnc, hcm, hcs, hx⟩
  · omega
  · refine ⟨g, cap, rfl, hb, (Array.getElem?_eq_some_iff.1 hg).1, hnc, fun j u hu => ⟨?_, bk_free hg j⟩⟩
    refine bk_cell hg j u ?_
    rw [← hx] at hu
    have hj := (List.getElem?_eq_some_iff.1 hu).1
    rw [List.length_take] at hj
    rw [List.getElem?_take_of_lt (by omega)] at hu
    rwa [Array.getElem?_toList] at hu
/-- nothing has turned but blocks of S -/
structure Chg (S : List Nat) (w w' : World) : Prop where
  os : w'.os = w.os
  tape : w'.tape = w.tape
  output : w'.output = w.output
  size : w.heap.size ≤ w'.heap.size
  block : ∀ k, k < w.heap.size → k ∉ S → w'.heap[k]? = w.heap[k]?
theorem Chg.refl (S : List Nat) (w : World) : Chg S w w := ⟨rfl, rfl, rfl, Nat.le_refl _, fun _ _ _ => rfl⟩
theorem Chg.of_pur {S : List Nat} {w w' : World} (h : Pur w w') : Chg S w w' := ⟨h.os, h.tape, h.output, h.size, fun k hk _ => h.block k hk⟩
theorem Chg.next {S S' : List Nat} {w w1 w2 : World} (h : Chg S w w1) (k : Chg S' w1 w2) (hs : ∀ b ∈ S', b ∈ S ∨ w.heap.size ≤ b) : Chg S w w2 :=
  ⟨k.os.trans h.os, k.tape.trans h.tape, k.output.trans h.output, Nat.le_trans h.size k.size, fun i hi hn =>
    (k.block i (Nat.lt_of_lt_of_le hi h.size) (fun hm => (hs i hm).elim hn (fun hm => by omega))).trans (h.block i hi hn)⟩
theorem Chg.trans {S : List Nat} {w w1 w2 : World} (h : Chg S w w1) (k : Chg S w1 w2) : Chg S w w2 := h.next k fun _ hb => .inl hb
theorem Chg.mono {S S' : List Nat} {w w1 : World} (h : Chg S w w1) (hs : ∀ b ∈ S, b ∈ S' ∨ w.heap.size ≤ b) : Chg S' w w1 :=
  ⟨h.os, h.tape, h.output, h.size, fun i hi hn => h.block i hi fun hm => (hs i hm).elim hn (fun hm => by omega)⟩
theorem Chg.pur {S : List Nat} {w w1 w2 : World} (h : Chg S w w1) (k : Pur w1 w2) : Chg S w w2 := h.trans (.of_pur k)
theorem Chg.setCell {S : List Nat} {w w1 : World} (h : Chg S w w1) {a : Addr} (ha : a.block ∈ S ∨ w.heap.size ≤ a.block) (v : Value) : Chg S w (w1.setCell a v) := by
  refine ⟨h.os, h.tape, h.output, by simp [World.setCell]; exact h.size, fun k hk hn => ?_⟩
  rw [RowKit.Below.heap_setCell _ _ _ _ (fun e => by subst e; exact ha.elim hn (fun h => by omega))]
  exact h.block k hk hn
theorem Chg.alloc {S : List Nat} {w w1 : World} (h : Chg S w w1) (o : Obj) : Chg S w (w1.alloc o) := h.pur ((Pur.refl w1).alloc o)
theorem Chg.drew {S : List Nat} {w w1 : World} (h : Chg S w w1) : Chg S w w1.drew := h.pur ((Pur.refl w1).drew)
theorem Chg.grown {S : List Nat} {w w1 w2 : World} (h : Chg S w w1) {r : Option Nat} (k : w1.grownBy w2 r) (hr : ∀ b, r = some b → b ∈ S ∨ w.heap.size ≤ b) : Chg S w w2 :=
  h.next (S' := r.toList) ⟨k.os, k.tape, k.output, k.size, fun i hi hn => k.block i hi (fun e => hn (by rw [← e]; simp))⟩ (fun b hb => hr b (by simpa using hb))
/-- where nothing old is among what may turn -/
theorem Chg.to_pur {S : List Nat} {w w' : World} (h : Chg S w w') (hs : ∀ b ∈ S, w.heap.size ≤ b) : Pur w w' :=
  ⟨h.os, h.tape, h.output, h.size, fun k hk => h.block k hk fun hm => by have := hs k hm; omega⟩
theorem bk_chg {S : List Nat} {w w' : World} {b : Nat} {o : Obj} (h : w.heap[b]? = some o) (hc : Chg S w w') (hb : b ∉ S) : w'.heap[b]? = some o := (hc.block b (bk_lt h) hb).trans h
theorem row_chg {S : List Nat} {w w' : World} {base : Nat} {e : TypeId} {size : Nat} {v : Value} {n : Nat} {xs : List Value} (h : w.ownsRow base e size v n xs) (hc : Chg S w w') (hb : ∀ g, v.ownBlock = some g → g ∉ S) : w'.ownsRow base e size v n xs :=
  row_same h fun g hg => hc.block g (h.lt g hg).2 (hb g hg)
end Go.Proofs.YtciigfaojmpoiaaGreatDoor
