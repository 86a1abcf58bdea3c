/- Layer 8: the heap's state, as plain data and as it lies in memory. Layer 8: (*Heap).at: the object of a number. Layer 8: (*Heap).add. Layer 8: (*Heap).add: the walk. -/
import Derived.Test.YtfophnmnehpenaaDoorChecked
import Derived.Test.YtfophnmnehpenaaDoorBase
import Derived.Test.YtfophnmnehpenaaDoorHpPure
import Derived.Maps.OwnSet
import Derived.Laws.AppendOwn
import Derived.Maps.AppendAt
import Derived.Lib.AppendIntMem
import Derived.Laws.AppendOwnNone
import Derived.OwnWalk
namespace Go.Proofs.YtfophnmnehpenaaDoor
open Go Go.RowKit
set_option linter.all false
/-- a value -/
structure Va where
  kind : Int
  num : Nat
  text : List UInt8
  ref : Int
def Va.cells (x : Va) : List Value := [.int .i64 x.kind, .float .f64 x.num, .string ⟨x.text.toArray⟩, .int .i64 x.ref]
def Va.v (x : Va) : Value := .agg x.cells.toArray
def Va.zero : Va := ⟨0, 0, [], 0⟩
def vaOf : Value → Option Va
  | .agg cs => match cs.toList with
    | [.int .i64 k, .float .f64 n, .string t, .int .i64 r] => some ⟨k, n, t.data.toList, r⟩
    | _ => none
  | _ => none
theorem vaOf_v (x : Va) : vaOf x.v = some x := by simp [vaOf, Va.v, Va.cells]
theorem vaOf_inv {v : Value} {x : Va} (h : vaOf v = some x) : v = x.v := by
  unfold vaOf at h
  split at h
  · next cs =>
    split at h
    · next k n t r e =>
      cases h
      have : cs = #[.int .i64 k, .float .f64 n, .string t, .int .i64 r] := by
        apply Array.toList_inj.1
        rw [e]
      rw [this]
      simp [Va.v, Va.cells]
    · cases h
  · cases h
/-- how a value in a map reads -/
def RV (v : Value) : Option (DataW Va × List MemPlace) := (vaOf v).map fun x => (.held x, [])
theorem RV_v (x : Va) : RV x.v = some (.held x, []) := by simp [RV, vaOf_v]
theorem RV_inv {v : Value} {x : Va} {ps : List MemPlace} (h : RV v = some (.held x, ps)) : v = x.v := by
  unfold RV at h
  obtain ⟨y, hy, e⟩ := Option.map_eq_some_iff.1 h
  cases e
  exact vaOf_inv hy
/-- an object -/
structure Ob where
  kind : Int
  proto : Int
  a : Int
  b : Int
  scope : Int
  keys : List (List UInt8)
  props : List UInt8 → Option Va
  items : List Va
/-- block m of w is a map of at most n entries that says what f says -/
def MapAt (w : World) (m n : Nat) (f : List UInt8 → Option Va) : Prop :=
  ∃ D, w.ownsMap Tryd.prog 9 RV m n D ∧ ∀ k, Maps.has D (.string k) = (f k).isSome ∧ ∀ z, D.atKey (.string k) z = ((f k).map DataW.held).getD z
def upd (f : List UInt8 → Option Va) (k : List UInt8) (x : Option Va) : List UInt8 → Option Va := fun k' => if k' = k then x else f k'
theorem World.ownsMap_same {H : Type} {P : Program} {k : TypeId} {R : Value → Option (DataW H × List MemPlace)} {w w' : World} {b n : Nat} {D : DataW H} (h : w.ownsMap P k R b n D) (e : w'.heap[b]? = w.heap[b]?) : w'.ownsMap P k R b n D := by
  obtain ⟨es, clock, hb, F, hs, hD⟩ := h
  exact ⟨es, clock, e.trans hb, F, hs, hD⟩
theorem World.ownsMap_tight {H : Type} {P : Program} {k : TypeId} {R : Value → Option (DataW H × List MemPlace)} {w : World} {b n : Nat} {D : DataW H} (h : w.ownsMap P k R b n D) : w.ownsMap P k R b (Maps.size D) D := by
  obtain ⟨es, clock, hb, F, hs, rfl⟩ := h
  exact ⟨es, clock, hb, F, by simp [Maps.size, length_sorted], rfl⟩
theorem World.ownsRow_same {w w' : World} {base : Nat} {e : TypeId} {size : Nat} {v : Value} {n : Nat} {xs : List Value} (h : w.ownsRow base e size v n xs) (hb : ∀ g, v.ownBlock = some g → w'.heap[g]? = w.heap[g]?) : w'.ownsRow base e size v n xs := by
  refine ⟨h.1, ?_⟩
  rcases h.2 with h2 | ⟨g, cap, cur, rfl, h1, h2, h3⟩
  · exact .inl h2
  · exact .inr ⟨g, cap, cur, rfl, h1, (hb g rfl).trans h2, h3⟩
theorem key_lit {k : List UInt8} (h : k.length ≤ maxLen) : Go.keyOf Tryd.prog 9 (.string ⟨k.toArray⟩) = some (.string k) :=
  Go.WideMaps.keyOf_string_mk Tryd.underlying9 (by show k.toArray.size ≤ maxLen; simpa using h)
/-- where an object lies -/
structure Pl where
  o : Nat
  m : Nat
  kv : Value
  iv : Value
def Pl.blocks (p : Pl) : List Nat := p.o :: p.m :: (p.kv.ownBlock.toList ++ p.iv.ownBlock.toList)
def keyVs (ks : List (List UInt8)) : List Value := ks.map fun k => .string ⟨k.toArray⟩
structure ObIn (w : World) (p : Pl) (x : Ob) : Prop where
  own : w.heap[p.o]? = some (.cells #[.int .i64 x.kind, .int .i64 x.proto, .int .i64 x.a, .int .i64 x.b, .int .i64 x.scope, p.kv, .map (some p.m), p.iv] 78 (0, 0))
  keys : w.ownsRow 0 9 1 p.kv x.keys.length (keyVs x.keys)
  props : MapAt w p.m x.keys.length x.props
  items : w.ownsRow 0 33 4 p.iv x.items.length (x.items.flatMap Va.cells)
/-- a heap: where it lies, and what it holds -/
structure Hs where
  h : Nat
  ov : Value
  ps : List Pl
  left : Int
  xs : List Ob
def Hs.blocks (s : Hs) : List Nat := s.h :: (s.ov.ownBlock.toList ++ s.ps.flatMap Pl.blocks)
def ptrs (ps : List Pl) : List Value := ps.map fun p => .pointer (some ⟨p.o, 0, none⟩)
structure HpAt (w : World) (s : Hs) : Prop where
  own : w.heap[s.h]? = some (.cells #[s.ov, .int .i64 s.left] 72 (0, 0))
  row : w.ownsRow 0 74 1 s.ov s.ps.length (ptrs s.ps)
  len : s.xs.length = s.ps.length
  each : ∀ (i : Nat) (p : Pl) (x : Ob), s.ps[i]? = some p → s.xs[i]? = some x → ObIn w p x
  apart : s.blocks.Nodup
/-- nothing has turned but blocks of S -/
structure Chg (S : List Nat) (w w' : World) : Prop where
  os : w'.os = w.os
  tape : w'.tape = w.tape
  output : w'.output = w.output
  size : w.heap.size ≤ w'.heap.size
  block : ∀ k, k < w.heap.size → k ∉ S → w'.heap[k]? = w.heap[k]?
/-- a step of the heap -/
structure Step (w : World) (s : Hs) (w' : World) (s' : Hs) : Prop where
  chg : Chg s.blocks w w'
  h : s'.h = s.h
  new : ∀ b ∈ s'.blocks, b ∈ s.blocks ∨ w.heap.size ≤ b
theorem Step.refl (w : World) (s : Hs) : Step w s w s := ⟨⟨rfl, rfl, rfl, Nat.le_refl _, fun _ _ _ => rfl⟩, rfl, fun _ h => .inl h⟩
theorem Step.trans {w w1 w2 : World} {s s1 s2 : Hs} (h : Step w s w1 s1) (k : Step w1 s1 w2 s2) : Step w s w2 s2 :=
  ⟨⟨k.chg.os.trans h.chg.os, k.chg.tape.trans h.chg.tape, k.chg.output.trans h.chg.output, Nat.le_trans h.chg.size k.chg.size, fun i hi hn =>
    (k.chg.block i (Nat.lt_of_lt_of_le hi h.chg.size) (fun hm => (h.new i hm).elim hn (fun hm => by omega))).trans (h.chg.block i hi hn)⟩,
    k.h.trans h.h, fun b hb => (k.new b hb).elim (h.new b) (fun hm => .inr (Nat.le_trans h.chg.size hm))⟩
theorem MapAt.same {w w' : World} {m n : Nat} {f : List UInt8 → Option Va} (h : MapAt w m n f) (e : w'.heap[m]? = w.heap[m]?) : MapAt w' m n f := by
  obtain ⟨D, h1, h2⟩ := h
  exact ⟨D, World.ownsMap_same h1 e, h2⟩
theorem MapAt.lt {w : World} {m n : Nat} {f : List UInt8 → Option Va} (h : MapAt w m n f) : m < w.heap.size := by
  obtain ⟨D, h1, h2⟩ := h
  exact h1.lt
theorem ObIn.same {w w' : World} {p : Pl} {x : Ob} (h : ObIn w p x) (e : ∀ b ∈ p.blocks, w'.heap[b]? = w.heap[b]?) : ObIn w' p x :=
  ⟨(e p.o (by simp [Pl.blocks])).trans h.own, World.ownsRow_same h.keys (fun g hg => e g (by simp [Pl.blocks, hg])), h.props.same (e p.m (by simp [Pl.blocks])), World.ownsRow_same h.items (fun g hg => e g (by simp [Pl.blocks, hg]))⟩
theorem mem_blocks {s : Hs} {p : Pl} (hp : p ∈ s.ps) {b : Nat} (hb : b ∈ p.blocks) : b ∈ s.blocks := by
  unfold Hs.blocks
  exact List.mem_cons_of_mem _ (List.mem_append_right _ (List.mem_flatMap.2 ⟨p, hp, hb⟩))
theorem HpAt.same {w w' : World} {s : Hs} (h : HpAt w s) (e : ∀ b ∈ s.blocks, w'.heap[b]? = w.heap[b]?) : HpAt w' s :=
  ⟨(e s.h (by simp [Hs.blocks])).trans h.own, World.ownsRow_same h.row (fun g hg => e g (by simp [Hs.blocks, hg])), h.len,
    fun i p x hp hx => (h.each i p x hp hx).same (fun b hb => e b (mem_blocks (List.mem_of_getElem? hp) hb)), h.apart⟩
theorem ObIn.lt {w : World} {p : Pl} {x : Ob} (h : ObIn w p x) : ∀ b ∈ p.blocks, b < w.heap.size := by
  intro b hb
  unfold Pl.blocks at hb
  rcases List.mem_cons.1 hb with rfl | hb
  · exact (Array.getElem?_eq_some_iff.1 h.own).1
  rcases List.mem_cons.1 hb with rfl | hb
  · exact h.props.lt
  rcases List.mem_append.1 hb with hb | hb
  · exact (h.keys.lt b (by simpa using hb)).2
  · exact (h.items.lt b (by simpa using hb)).2
theorem HpAt.lt {w : World} {s : Hs} (h : HpAt w s) : ∀ b ∈ s.blocks, b < w.heap.size := by
  intro b hb
  unfold Hs.blocks at hb
  rcases List.mem_cons.1 hb with rfl | hb
  · exact (Array.getElem?_eq_some_iff.1 h.own).1
  rcases List.mem_append.1 hb with hb | hb
  · exact (h.row.lt b (by simpa using hb)).2
  · obtain ⟨p, hp, hb⟩ := List.mem_flatMap.1 hb
    obtain ⟨i, hi⟩ := List.mem_iff_getElem?.1 hp
    have hl := (List.getElem?_eq_some_iff.1 hi).1
    have hl' : i < s.xs.length := by rw [h.len]; exact hl
    exact (h.each i p _ hi (List.getElem?_eq_getElem hl')).lt b hb
theorem HpAt.pur {w w' : World} {s : Hs} (h : HpAt w s) (hp : Pur w w') : HpAt w' s := h.same fun b hb => hp.block b (h.lt b hb)
theorem HpAt.kept {w w' : World} {s : Hs} {S : List Nat} (h : HpAt w s) (hc : Chg S w w') (hd : ∀ b ∈ s.blocks, b ∉ S) : HpAt w' s := h.same fun b hb => hc.block b (h.lt b hb) (hd b hb)
end Go.Proofs.YtfophnmnehpenaaDoor
namespace Go.Proofs.YtfophnmnehpenaaDoor
open Go Go.RowKit
set_option linter.all false
/-- the place of an object, or none -/
def Hs.at (s : Hs) (i : Int) : Option Addr := if i < 0 ∨ (s.ps.length : Int) ≤ i then none else (s.ps[i.toNat]?).map fun p => ⟨p.o, 0, none⟩
theorem HpAt.cell0 {w : World} {s : Hs} (h : HpAt w s) : w.cell? ⟨s.h, 0, none⟩ = some s.ov := by
  rw [cell_of_row w _ 0 _ _ _ h.own]; rfl
theorem HpAt.cell1 {w : World} {s : Hs} (h : HpAt w s) : w.cell? ⟨s.h, 1, none⟩ = some (.int .i64 s.left) := by
  rw [cell_of_row w _ 1 _ _ _ h.own]; rfl
/-- the objects' row -/
theorem HpAt.rows {w : World} {s : Hs} (h : HpAt w s) : ∃ a c, s.ov = .slice a s.ps.length c ∧ ∀ (i : Nat) (p : Pl), s.ps[i]? = some p → ∃ g, a = some ⟨g, 0, none⟩ ∧ w.cell? ⟨g, i, none⟩ = some (.pointer (some ⟨p.o, 0, none⟩)) := by
  have hr := h.row
  rcases hr.2 with ⟨e, h0⟩ | ⟨g, cap, cur, e, _⟩
  · rw [h0]
    exact ⟨none, 0, e, fun i p hp => by rw [List.length_eq_zero_iff.1 h0] at hp; simp at hp⟩
  · refine ⟨some ⟨g, 0, none⟩, cap, e, fun i p hp => ⟨g, rfl, ?_⟩⟩
    have := hr.cells (g := g) (by rw [e]; rfl) i (.pointer (some ⟨p.o, 0, none⟩)) (by simp [ptrs, hp])
    rw [← this]
    unfold Addr.add
    split <;> simp_all
theorem HpAt.short {w : World} {s : Hs} (h : HpAt w s) : (s.ps.length : Int) ≤ 9223372036854775807 := by
  rcases h.row.2 with ⟨e, h0⟩ | ⟨g, cap, cur, e, _, _, h1, h2, _⟩
  · omega
  · simp only [maxLen] at h2
    omega
set_option maxRecDepth 100000 in
theorem at_any (s : Hs) (i : Int) (w : World) (h : HpAt w s) : Calls Tryd.prog 40 #[.pointer (some ⟨s.h, 0, none⟩), .int .i64 i] w fun e w' => e = .returned (.pointer (s.at i)) ∧ w = w' := by
  have c0 := h.cell0
  obtain ⟨a, c, hov, hrow⟩ := h.rows
  rw [hov] at c0
  have hst := h.short
  clear hov h
  unfold Hs.at
  by_cases h1 : i < 0
  · rw [if_pos (Or.inl h1)]
    go_enter Tryd.func40, Tryd.ntmps40
    go_wp2
    go_ret
    exact ⟨rfl, rfl⟩
  by_cases h2 : (s.ps.length : Int) ≤ i
  · rw [if_pos (Or.inr h2)]
    go_enter Tryd.func40, Tryd.ntmps40
    go_wp2
    go_ret
    exact ⟨rfl, rfl⟩
  rw [if_neg (by omega)]
  have h3 : i.toNat < s.ps.length := by omega
  obtain ⟨p, hp⟩ : ∃ p, s.ps[i.toNat]? = some p := ⟨_, List.getElem?_eq_getElem h3⟩
  obtain ⟨g, rfl, hc⟩ := hrow i.toNat p hp
  rw [hp]
  have h4 : 0 ≤ i := by omega
  have h5 : i < (s.ps.length : Int) := by omega
  go_enter Tryd.func40, Tryd.ntmps40
  go_wp2
  go_ret
  exact ⟨rfl, rfl⟩
end Go.Proofs.YtfophnmnehpenaaDoor
namespace Go.Proofs.YtfophnmnehpenaaDoor
open Go Go.RowKit
set_option linter.all false
theorem nodup_push {h : Nat} {L L' M K : List Nat} (hn : (h :: (L ++ M)).Nodup) (hk : K.Nodup) (hd : ∀ b ∈ K, b ∉ h :: (L ++ M)) (hl : L' = L ∨ ∃ c, L' = [c] ∧ c ∉ h :: (L ++ M) ∧ c ∉ K) : (h :: (L' ++ (M ++ K))).Nodup := by
  rw [List.nodup_cons, List.nodup_append] at hn
  obtain ⟨n1, n2, n3, n4⟩ := hn
  have d1 : ∀ b ∈ K, b ≠ h ∧ b ∉ L ∧ b ∉ M := fun b hb => by
    have := hd b hb
    simp only [List.mem_cons, List.mem_append, not_or] at this
    exact ⟨this.1, this.2.1, this.2.2⟩
  simp only [List.mem_append, not_or] at n1
  rcases hl with rfl | ⟨c, rfl, hc, hcK⟩
  · rw [List.nodup_cons, List.nodup_append, List.nodup_append]
    refine ⟨?_, n2, ⟨n3, hk, fun a ha b hb e => (d1 b hb).2.2 (e ▸ ha)⟩, fun a ha b hb e => ?_⟩
    · simp only [List.mem_append, not_or]
      exact ⟨n1.1, n1.2, fun hm => (d1 _ hm).1 rfl⟩
    · rcases List.mem_append.1 hb with hb | hb
      · exact n4 a ha b hb e
      · exact (d1 b hb).2.1 (e ▸ ha)
  · simp only [List.mem_cons, List.mem_append, not_or] at hc
    rw [List.nodup_cons, List.nodup_append, List.nodup_append]
    refine ⟨?_, by simp, ⟨n3, hk, fun a ha b hb e => (d1 b hb).2.2 (e ▸ ha)⟩, fun a ha b hb e => ?_⟩
    · simp only [List.mem_append, List.mem_singleton, not_or]
      exact ⟨fun e => hc.1 e.symm, n1.2, fun hm => (d1 _ hm).1 rfl⟩
    · obtain rfl : a = c := by simpa using ha
      subst e
      rcases List.mem_append.1 hb with hb | hb
      · exact hc.2.2 hb
      · exact hcK hb
def Hs.push (s : Hs) (v' : Value) (cells : Int) (p : Pl) (x : Ob) : Hs := ⟨s.h, v', s.ps ++ [p], s.left - cells, s.xs ++ [x]⟩
/-- what is behind add -/
theorem HpAt.push {w w' : World} {s : Hs} (h : HpAt w s) {v' : Value} {cells : Int} {p : Pl} {x : Ob}
    (hkeep : ∀ b, b < w.heap.size → b ≠ s.h → s.ov.ownBlock ≠ some b → b ≠ p.o → w'.heap[b]? = w.heap[b]?)
    (hown : w'.heap[s.h]? = some (.cells #[v', .int .i64 (s.left - cells)] 72 (0, 0)))
    (hrow : w'.ownsRow 0 74 1 v' (s.ps.length + 1) (ptrs s.ps ++ [.pointer (some ⟨p.o, 0, none⟩)]))
    (hv : v'.ownBlock = s.ov.ownBlock ∨ ∃ c, v'.ownBlock = some c ∧ w.heap.size ≤ c ∧ c ∉ p.blocks)
    (hob : ObIn w' p x) (hpn : p.blocks.Nodup) (hpd : ∀ b ∈ p.blocks, b ∉ s.blocks) : HpAt w' (s.push v' cells p x) := by
  have hap := h.apart
  unfold Hs.blocks at hap
  refine ⟨hown, ?_, ?_, ?_, ?_⟩
  · have e1 : (s.push v' cells p x).ps.length = s.ps.length + 1 := by simp [Hs.push]
    have e2 : ptrs (s.push v' cells p x).ps = ptrs s.ps ++ [.pointer (some ⟨p.o, 0, none⟩)] := by simp [Hs.push, ptrs]
    rw [e1, e2]
    exact hrow
  · simp [Hs.push, h.len]
  · intro i q y hq hy
    simp only [Hs.push] at hq hy
    by_cases hi : i < s.ps.length
    · rw [List.getElem?_append_left hi] at hq
      rw [List.getElem?_append_left (by rw [h.len]; exact hi)] at hy
      have hin := h.each i q y hq hy
      refine hin.same fun b hb => ?_
      have hbs := mem_blocks (List.mem_of_getElem? hq) hb
      have hbm : b ∈ s.ps.flatMap Pl.blocks := List.mem_flatMap.2 ⟨q, List.mem_of_getElem? hq, hb⟩
      rw [List.nodup_cons, List.nodup_append] at hap
      refine hkeep b (hin.lt b hb) (fun e => hap.1 (by rw [← e]; exact List.mem_append_right _ hbm)) (fun e => ?_) (fun e => hpd p.o (by simp [Pl.blocks]) (e ▸ hbs))
      exact hap.2.2.2 b (by rw [e]; simp) b hbm rfl
    · have hi' : i = s.ps.length := by
        have := (List.getElem?_eq_some_iff.1 hq).1
        simp at this
        omega
      subst hi'
      rw [List.getElem?_append_right (Nat.le_refl _)] at hq
      rw [List.getElem?_append_right (by rw [h.len]; exact Nat.le_refl _), h.len] at hy
      simp at hq hy
      subst hq hy
      exact hob
  · unfold Hs.blocks
    simp only [Hs.push, List.flatMap_append, List.flatMap_cons, List.flatMap_nil, List.append_nil]
    refine nodup_push hap hpn hpd ?_
    rcases hv with e | ⟨c, e, hc, hcp⟩
    · exact .inl (by rw [e])
    · refine .inr ⟨c, by rw [e]; rfl, fun hm => ?_, hcp⟩
      have := h.lt c hm
      omega
end Go.Proofs.YtfophnmnehpenaaDoor
namespace Go.Proofs.YtfophnmnehpenaaDoor
open Go Go.RowKit
set_option linter.all false
theorem ptr_info : (Tryd.prog.info? 74).map (fun i => (i.zero.map (·.cells.size), i.size, i.bytes)) = some (some 1, 1, 8) := by kernel_rfl
theorem bk_cell {w : World} {b : Nat} {cur : Array Value} {e : TypeId} (h : w.heap[b]? = some (.cells cur e (0, 0))) (i : Nat) (v : Value) (hv : cur[i]? = some v) : w.cell? ⟨b, i, none⟩ = some v := by
  rw [cell_of_row w _ i _ _ _ h]; exact hv
@[go_sem] theorem run_mk {P : Program} (t : TypeId) (w : World) : (Instr.makeMap t none).run P w = .ok (.map (some w.heap.size)) (w.alloc (.map #[] 0)) := run_makeMap t w
theorem bk_lt {w : World} {b : Nat} {o : Obj} (h : w.heap[b]? = some o) : b < w.heap.size := (Array.getElem?_eq_some_iff.1 h).1
theorem bk_pur {w w' : World} {b : Nat} {o : Obj} (h : w.heap[b]? = some o) (hp : Pur w w') : w'.heap[b]? = some o := (hp.block b (bk_lt h)).trans h
theorem bk_alloc {w : World} {b : Nat} {o : Obj} (h : w.heap[b]? = some o) (o' : Obj) : (w.alloc o').heap[b]? = some o := bk_pur h ((Pur.refl w).alloc o')
theorem bk_new (w : World) (o : Obj) : (w.alloc o).heap[w.heap.size]? = some o := Array.getElem?_push_size
theorem bk_set {w : World} {b : Nat} {cur : Array Value} {e : TypeId} (h : w.heap[b]? = some (.cells cur e (0, 0))) (i : Nat) (v : Value) : (w.setCell ⟨b, i, none⟩ v).heap[b]? = some (.cells (cur.setIfInBounds i v) e (0, 0)) := by
  simp [World.setCell, Array.getElem?_modify, h]
theorem bk_other {w : World} {b : Nat} {o : Obj} (h : w.heap[b]? = some o) {a : Addr} (hne : b ≠ a.block) (v : Value) : (w.setCell a v).heap[b]? = some o := by
  rw [RowKit.Below.heap_setCell _ _ _ _ hne]; exact h
theorem bk_free {w : World} {b : Nat} {cur : Array Value} {e : TypeId} (h : w.heap[b]? = some (.cells cur e (0, 0))) (i : Nat) : w.frozen? ⟨b, i, none⟩ = false := by
  simp [World.frozen?, h]
theorem row_shape {w : World} {B : Nat} {e : TypeId} {k : Nat} {v : Value} {n : Nat} {xs : List Value} (h : w.ownsRow B e k v n xs) : ∃ a c, v = .slice a n c := by
  rcases h.2 with ⟨e, h0⟩ | ⟨g, cap, cur, e, _⟩
  · exact ⟨none, 0, by rw [e, h0]⟩
  · exact ⟨_, _, e⟩
set_option maxRecDepth 100000 in
set_option maxHeartbeats 2000000 in
theorem add_any (s : Hs) (o : Nat) (x : Ob) (kv iv mv : Value) (c : Int) (w : World) (h : HpAt w s)
    (ho : w.heap[o]? = some (.cells #[.int .i64 x.kind, .int .i64 x.proto, .int .i64 x.a, .int .i64 x.b, .int .i64 x.scope, kv, mv, iv] 78 (0, 0)))
    (hos : o ∉ s.blocks) (hk : x.keys = []) (hkv : kv = .slice none 0 0) (hpp : x.props = fun _ => none)
    (hiv : w.ownsRow 0 33 4 iv x.items.length (x.items.flatMap Va.cells)) (hiv1 : iv.ownBlock ≠ some o) (hiv2 : ∀ b, iv.ownBlock = some b → b ∉ s.blocks) (hc : 0 ≤ c) (hl : 0 ≤ s.left) (hl2 : s.left ≤ 10000) (hn : s.ps.length ≤ 1000000) :
    Calls Tryd.prog 38 #[.pointer (some ⟨s.h, 0, none⟩), .pointer (some ⟨o, 0, none⟩), .int .i64 c] w fun e w' => (s.left < c ∧ e = .returned (.tuple #[.int .i64 0, .int .i64 112]) ∧ w = w') ∨
      (c ≤ s.left ∧ e = .returned (.tuple #[.int .i64 s.ps.length, .int .i64 0]) ∧ ∃ v', HpAt w' (s.push v' c ⟨o, w.heap.size, kv, iv⟩ x) ∧ Chg (o :: s.blocks) w w' ∧ (v'.ownBlock = s.ov.ownBlock ∨ v'.ownBlock = some (w.heap.size + 2))) := by
  have c0 := h.cell0
  have c1 := h.cell1
  obtain ⟨i0, hi, hz⟩ := Option.map_eq_some_iff.1 ptr_info
  simp only [Prod.mk.injEq] at hz
  obtain ⟨hz0, hz1, hz2⟩ := hz
  obtain ⟨z0, hz0, hzs⟩ := Option.map_eq_some_iff.1 hz0
  have hne : o ≠ s.h := fun e => hos (by rw [e]; simp [Hs.blocks])
  by_cases hlt : s.left < c
  · clear ho h
    go_enter Tryd.func38, Tryd.ntmps38
    go_wp2
    go_ret2
    exact .inl ⟨hlt, rfl, rfl⟩
  · have f1 := bk_free h.own 1
    have B1h := bk_set h.own 1 (.int .i64 (s.left - c))
    have B1o := bk_other ho (a := ⟨s.h, 1, none⟩) hne (.int .i64 (s.left - c))
    have B2h := bk_alloc B1h (.map #[] 0)
    have B2o := bk_alloc B1o (.map #[] 0)
    have k6 := bk_cell B2o 6 mv rfl
    have f6 := bk_free B2o 6
    have B3h := bk_other B2h (a := ⟨o, 6, none⟩) (Ne.symm hne) (.map (some w.heap.size))
    have B3o := bk_set B2o 6 (.map (some w.heap.size))
    have k0 := bk_cell B3h 0 s.ov rfl
    have B4h := bk_alloc B3h (.cells #[.pointer (some ⟨o, 0, none⟩)] 74)
    have B4o := bk_alloc B3o (.cells #[.pointer (some ⟨o, 0, none⟩)] 74)
    have hap := h.apart
    unfold Hs.blocks at hap
    rw [List.nodup_cons] at hap
    have G4 : ∀ g, g < w.heap.size → g ≠ s.h → g ≠ o → ((((w.setCell ⟨s.h, 1, none⟩ (.int .i64 (s.left - c))).alloc (.map #[] 0)).setCell ⟨o, 6, none⟩ (.map (some w.heap.size))).alloc (.cells #[.pointer (some ⟨o, 0, none⟩)] 74)).heap[g]? = w.heap[g]? := fun g hg h1 h2 => by
      have hx : w.heap[g]? = some w.heap[g] := Array.getElem?_eq_getElem hg
      rw [hx]
      exact bk_alloc (bk_other (bk_alloc (bk_other hx (a := ⟨s.h, 1, none⟩) h1 _) _) (a := ⟨o, 6, none⟩) h2 _) _
    have H4 : some s.h ≠ s.ov.ownBlock := fun e => hap.1 (List.mem_append_left _ (by rw [← e]; simp))
    have O4 : some o ≠ s.ov.ownBlock := fun e => hos (by unfold Hs.blocks; exact List.mem_cons_of_mem _ (List.mem_append_left _ (by rw [← e]; simp)))
    have R4 := World.ownsRow_same h.row (fun g hg => G4 g (h.row.lt g hg).2 (fun e => H4 (by rw [hg, e])) (fun e => O4 (by rw [hg, e])))
    have wr : IntKind.i64.wrap (s.left - c) = s.left - c := IntWalk.i64_in _ (by omega)
    go_enter Tryd.func38, Tryd.ntmps38
    go_wp2_with (at_builtin; refine wpList_append_own_at _ rfl _ _ 70 rfl 0 74 i0 z0 1 8 Tryd.underlying70 hi hz0 hz1 hz2 hzs (by decide) _ _ _ rfl R4 ⟨_, 0, none⟩ 1 1 [.pointer (some ⟨o, 0, none⟩)] rfl rfl ?c1 ?c2 ?c3 ?c4 ?c5 ?_)
    case c2 => rfl
    case c3 => unfold maxLen; omega
    case c4 => omega
    intro v5 w5 hown5 hgrow _ hid
    have B5h := (hgrow.block _ (bk_lt B4h) H4).trans B4h
    have B5o := (hgrow.block _ (bk_lt B4o) O4).trans B4o
    have f5 := bk_free B5h 0
    have k5 := bk_cell B5h 0 s.ov rfl
    obtain ⟨a5, c5, rfl⟩ := row_shape hown5
    have B6h := bk_set B5h 0 (.slice a5 (s.ps.length + 1) c5)
    have k6' := bk_cell B6h 0 _ rfl
    have hsz : ((((w.setCell ⟨s.h, 1, none⟩ (.int .i64 (s.left - c))).alloc (.map #[] 0)).setCell ⟨o, 6, none⟩ (.map (some w.heap.size))).alloc (.cells #[.pointer (some ⟨o, 0, none⟩)] 74)).heap.size = w.heap.size + 2 := by simp [World.setCell, World.alloc]
    have hown6 := World.ownsRow_same (w' := w5.setCell ⟨s.h, 0, none⟩ (.slice a5 (s.ps.length + 1) c5)) hown5 (fun g hg => by
      have hx := Array.getElem?_eq_getElem (hown5.lt g hg).2
      rw [hx]
      refine bk_other hx (a := ⟨s.h, 0, none⟩) (fun e => ?_) _
      rw [hg] at hid
      rcases hid with e' | e'
      · exact H4 (by rw [← e', e])
      · have := bk_lt h.own
        simp only [Option.some.injEq] at e'
        simp only at e
        omega)
    have K6 : ∀ b, b < w.heap.size → b ≠ s.h → s.ov.ownBlock ≠ some b → b ≠ o → (w5.setCell ⟨s.h, 0, none⟩ (.slice a5 (s.ps.length + 1) c5)).heap[b]? = w.heap[b]? := fun b hb h1 h2 h3 => by
      have hx := Array.getElem?_eq_getElem hb
      rw [hx]
      have e4 := G4 b hb h1 h3
      rw [hx] at e4
      exact bk_other ((hgrow.block b (by rw [hsz]; omega) (Ne.symm h2)).trans e4) (a := ⟨s.h, 0, none⟩) h1 _
    have B6o := bk_other B5o (a := ⟨s.h, 0, none⟩) hne (.slice a5 (s.ps.length + 1) c5)
    have M2 := bk_new (w.setCell ⟨s.h, 1, none⟩ (.int .i64 (s.left - c))) (.map #[] 0)
    have hs1 : (w.setCell ⟨s.h, 1, none⟩ (.int .i64 (s.left - c))).heap.size = w.heap.size := by simp [World.setCell]
    rw [hs1] at M2
    have M3 := bk_other M2 (a := ⟨o, 6, none⟩) (fun e => by have := bk_lt ho; simp only at e; omega) (.map (some w.heap.size))
    have M4 := bk_alloc M3 (.cells #[.pointer (some ⟨o, 0, none⟩)] 74)
    have M5 := (hgrow.block _ (bk_lt M4) (fun e => by have := (h.row.lt _ e.symm).2; omega)).trans M4
    have M6 := bk_other M5 (a := ⟨s.h, 0, none⟩) (fun e => by have := bk_lt h.own; simp only at e; omega) (.slice a5 (s.ps.length + 1) c5)
    have hb6 : ∀ b ∈ (Pl.mk o w.heap.size kv iv).blocks, b = o ∨ b = w.heap.size ∨ iv.ownBlock = some b := fun b hb => by
      rw [hkv] at hb
      simpa [Pl.blocks, Value.ownBlock] using hb
    have hres : HpAt (w5.setCell ⟨s.h, 0, none⟩ (.slice a5 (s.ps.length + 1) c5)) (s.push (.slice a5 (s.ps.length + 1) c5) c ⟨o, w.heap.size, kv, iv⟩ x) := by
      refine h.push K6 B6h hown6 ?_ ?_ ?_ ?_
      · rcases hid with e | e
        · exact .inl e
        · refine .inr ⟨_, e, by omega, fun hm => ?_⟩
          rcases hb6 _ hm with e | e | e
          · have := bk_lt ho; omega
          · omega
          · have := (hiv.lt _ e).2; omega
      · refine ⟨B6o, ?_, ?_, ?_⟩
        · rw [hk, hkv]; exact World.ownsRow_nil _ _ _ _
        · rw [hk, hpp]
          refine ⟨.map [], ⟨#[], 0, M6, ⟨by simp, MapKept.stamped_empty 0, by simp⟩, Nat.le_refl _, rfl⟩, fun k => ⟨rfl, fun z => rfl⟩⟩
        · refine World.ownsRow_same hiv (fun g hg => ?_)
          have h1 := (hiv.lt g hg).2
          refine K6 g h1 (fun e => hiv2 g hg (by rw [e]; simp [Hs.blocks])) (fun e => hiv2 g hg (by simp [Hs.blocks, e])) (fun e => hiv1 (by rw [hg, e]))
      · rw [hkv]
        have hlo := bk_lt ho
        have z : (Value.slice none 0 0).ownBlock = none := rfl
        rcases he : iv.ownBlock with _ | g
        · simp [Pl.blocks, z, he]; omega
        · have := (hiv.lt g he).2
          have h2 : g ≠ o := fun e => hiv1 (by rw [he, e])
          simp [Pl.blocks, z, he]
          omega
      · intro b hb
        rcases hb6 b hb with rfl | rfl | e
        · exact hos
        · intro hm; have := h.lt _ hm; omega
        · exact hiv2 b e
    have hchg : Chg (o :: s.blocks) w (w5.setCell ⟨s.h, 0, none⟩ (.slice a5 (s.ps.length + 1) c5)) := by
      refine ⟨by rw [show (w5.setCell ⟨s.h, 0, none⟩ (.slice a5 (s.ps.length + 1) c5)).os = w5.os from rfl, hgrow.os]; rfl, by rw [show (w5.setCell ⟨s.h, 0, none⟩ (.slice a5 (s.ps.length + 1) c5)).tape = w5.tape from rfl, hgrow.tape]; rfl, by rw [show (w5.setCell ⟨s.h, 0, none⟩ (.slice a5 (s.ps.length + 1) c5)).output = w5.output from rfl, hgrow.output]; rfl, ?_, ?_⟩
      · have := hgrow.size
        rw [hsz] at this
        simp only [World.setCell, Array.size_modify]
        omega
      · intro k hk' hn'
        simp only [List.mem_cons, not_or] at hn'
        refine K6 k hk' (fun e => hn'.2 (by rw [e]; simp [Hs.blocks])) (fun e => hn'.2 (by simp [Hs.blocks, e])) hn'.1
    have hid' : (Value.slice a5 (s.ps.length + 1) c5).ownBlock = s.ov.ownBlock ∨ (Value.slice a5 (s.ps.length + 1) c5).ownBlock = some (w.heap.size + 2) := hid
    have HF := Lib.hid (And.intro hres (And.intro hchg hid'))
    clear hres hchg hid' hid hown6 K6 B6o M2 M3 M4 M5 M6 hb6 G4 R4 hap B5o hown5 hgrow h ho hiv hiv1 hiv2 hos hk hkv hpp
    go_wp2
    go_ret2
    exact .inr ⟨by omega, by go_num, _, HF.out⟩
end Go.Proofs.YtfophnmnehpenaaDoor
