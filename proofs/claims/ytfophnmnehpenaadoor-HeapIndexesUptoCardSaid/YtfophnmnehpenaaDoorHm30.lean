/- Layer 8: a heap of a law's own, and what its calls leave. -/
import Derived.Test.YtfophnmnehpenaaDoorHm29
import Derived.Test.YtfophnmnehpenaaDoorHm16
import Derived.Test.YtfophnmnehpenaaDoorHp4
namespace Go.Proofs.YtfophnmnehpenaaDoor
open Go Go.RowKit
set_option linter.all false
/-- a heap that was made behind w0, at block hh; the blocks of K are not its own -/
structure At (w0 : World) (hh G : Nat) (K : Nat → Prop) (w : World) (d : Hd) : Prop where
  ex : ∃ s, HpAt w s ∧ s.h = hh ∧ s.d = d ∧ (∀ b ∈ s.blocks, w0.heap.size ≤ b) ∧ ∀ b, K b → b < w.heap.size ∧ b ∉ s.blocks
  ok : d.Ok G
  pur : Pur w0 w
def Kept (K : Nat → Prop) (w w' : World) : Prop := ∀ b, K b → w'.heap[b]? = w.heap[b]?
theorem Kept.trans {K : Nat → Prop} {w w1 w2 : World} (h : Kept K w w1) (k : Kept K w1 w2) : Kept K w w2 := fun b hb => (k b hb).trans (h b hb)
theorem At.pure {w0 w w' : World} {hh G : Nat} {K : Nat → Prop} {d : Hd} (h : At w0 hh G K w d) (hp : Pur w w') : At w0 hh G K w' d ∧ Kept K w w' := by
  obtain ⟨s, h1, h2, h3, h4, h5⟩ := h.ex
  exact ⟨⟨⟨s, h1.pur hp, h2, h3, h4, fun b hb => ⟨Nat.lt_of_lt_of_le (h5 b hb).1 hp.size, (h5 b hb).2⟩⟩, h.ok, h.pur.trans hp⟩, fun b hb => hp.block b (h5 b hb).1⟩
theorem At.next {w0 w w' : World} {hh G : Nat} {K : Nat → Prop} {d d' : Hd} (h : At w0 hh G K w d) (hok : d'.Ok G) {s s' : Hs} (h1 : HpAt w s) (h2 : s.h = hh) (h4 : ∀ b ∈ s.blocks, w0.heap.size ≤ b) (h5 : ∀ b, K b → b < w.heap.size ∧ b ∉ s.blocks)
    (k1 : HpAt w' s') (k2 : Step w s w' s') (k3 : s'.d = d') : At w0 hh G K w' d' ∧ Kept K w w' := by
  refine ⟨⟨⟨s', k1, k2.h.trans h2, k3, fun b hb => ?_, fun b hb => ⟨Nat.lt_of_lt_of_le (h5 b hb).1 k2.chg.size, fun hm => ?_⟩⟩, hok, ?_⟩, fun b hb => k2.chg.block b (h5 b hb).1 (h5 b hb).2⟩
  · rcases k2.new b hb with hb | hb
    · exact h4 b hb
    · exact Nat.le_trans h.pur.size hb
  · rcases k2.new b hm with hm | hm
    · exact (h5 b hb).2 hm
    · have := (h5 b hb).1; omega
  · have hc := k2.chg
    exact ⟨hc.os.trans h.pur.os, hc.tape.trans h.pur.tape, hc.output.trans h.pur.output, Nat.le_trans h.pur.size hc.size, fun k hk => (hc.block k (Nat.lt_of_lt_of_le hk h.pur.size) (fun hm => by have := h4 k hm; omega)).trans (h.pur.block k hk)⟩
/-- one more block that is not the heap's -/
theorem At.keep {w0 w w' : World} {hh G : Nat} {K : Nat → Prop} {d : Hd} (h : At w0 hh G K w d) (hp : Pur w w') (b : Nat) (hb : w.heap.size ≤ b) (hb' : b < w'.heap.size) : At w0 hh G (fun k => K k ∨ k = b) w' d := by
  obtain ⟨s, h1, h2, h3, h4, h5⟩ := h.ex
  refine ⟨⟨s, h1.pur hp, h2, h3, h4, fun k hk => ?_⟩, h.ok, h.pur.trans hp⟩
  rcases hk with hk | rfl
  · exact ⟨Nat.lt_of_lt_of_le (h5 k hk).1 hp.size, (h5 k hk).2⟩
  · exact ⟨hb', fun hm => by have := h1.lt _ hm; omega⟩
theorem At.sub {w0 w : World} {hh G : Nat} {K K' : Nat → Prop} {d : Hd} (h : At w0 hh G K w d) (hk : ∀ b, K' b → K b) : At w0 hh G K' w d := by
  obtain ⟨s, h1, h2, h3, h4, h5⟩ := h.ex
  exact ⟨⟨s, h1, h2, h3, h4, fun b hb => h5 b (hk b hb)⟩, h.ok, h.pur⟩
theorem plain_st {w0 w : World} {hh G : Nat} {K : Nat → Prop} {d : Hd} (h : At w0 hh G K w d) (p : Int) :
    Calls Tryd.prog 21 #[.pointer (some ⟨hh, 0, none⟩), .int .i64 p] w fun e w' => e = .returned (.tuple #[.int .i64 (d.plain p).1.1, .int .i64 (d.plain p).1.2]) ∧ At w0 hh G K w' (d.plain p).2 ∧ Kept K w w' := by
  obtain ⟨s, h1, h2, h3, h4, h5⟩ := h.ex
  subst h2 h3
  refine (plain_any s p w h1 h.ok).mono ?_
  rintro e w' ⟨rfl, s', k1, k2, k3⟩
  exact ⟨rfl, h.next (h.ok.plain p) h1 rfl h4 h5 k1 k2 k3⟩
theorem array_st {w0 w : World} {hh G : Nat} {K : Nat → Prop} {d : Hd} (h : At w0 hh G K w d) (v : Value) (vs : List Va) (hv : VRead w v vs) (hwf : ∀ x ∈ vs, x.wf) (hn : vs.length ≤ 1000000) :
    Calls Tryd.prog 15 #[.pointer (some ⟨hh, 0, none⟩), v] w fun e w' => e = .returned (.tuple #[.int .i64 (d.array vs).1.1, .int .i64 (d.array vs).1.2]) ∧ At w0 hh G K w' (d.array vs).2 ∧ Kept K w w' := by
  obtain ⟨s, h1, h2, h3, h4, h5⟩ := h.ex
  subst h2 h3
  refine (array_any s v vs w h1 hv hwf hn h.ok).mono ?_
  rintro e w' ⟨rfl, s', k1, k2, k3⟩
  exact ⟨rfl, h.next (h.ok.array vs) h1 rfl h4 h5 k1 k2 k3⟩
theorem put_st {w0 w : World} {hh G : Nat} {K : Nat → Prop} {d : Hd} (h : At w0 hh G K w d) (i : Int) (key : List UInt8) (v : Va) (hvw : v.wf) (hkl : key.length ≤ 1000000) :
    Calls Tryd.prog 16 #[.pointer (some ⟨hh, 0, none⟩), .int .i64 i, .string ⟨key.toArray⟩, v.v] w fun e w' => e = .returned (.int .i64 (d.put i key v).1) ∧ At w0 hh G K w' (d.put i key v).2 ∧ Kept K w w' := by
  obtain ⟨s, h1, h2, h3, h4, h5⟩ := h.ex
  subst h2 h3
  refine (put_any s i key v w h1 h.ok hvw hkl).mono ?_
  rintro e w' ⟨rfl, s', k1, k2, k3, -⟩
  exact ⟨rfl, h.next (h.ok.put i key v) h1 rfl h4 h5 k1 k2 k3⟩
theorem get_st {w0 w : World} {hh G : Nat} {K : Nat → Prop} {d : Hd} (h : At w0 hh G K w d) (i : Int) (key : List UInt8) (hkl : key.length ≤ 1000000) :
    Calls Tryd.prog 22 #[.pointer (some ⟨hh, 0, none⟩), .int .i64 i, .string ⟨key.toArray⟩] w fun e w' => e = .returned (.tuple #[(d.get i key).1.v, .bool (d.get i key).2]) ∧ Pur w w' := by
  obtain ⟨s, h1, h2, h3, h4, h5⟩ := h.ex
  subst h2 h3
  exact get_any s i key w h1 h.ok hkl
theorem own_st {w0 w : World} {hh G : Nat} {K : Nat → Prop} {d : Hd} (h : At w0 hh G K w d) (i : Int) (key : List UInt8) (hkl : key.length ≤ 1000000) :
    Calls Tryd.prog 20 #[.pointer (some ⟨hh, 0, none⟩), .int .i64 i, .string ⟨key.toArray⟩] w fun e w' => e = .returned (.tuple #[(d.own i key).1.v, .bool (d.own i key).2]) ∧ Pur w w' := by
  obtain ⟨s, h1, h2, h3, h4, h5⟩ := h.ex
  subst h2 h3
  exact own_any s i key w h1 h.ok hkl
def cellsOf (c : Int) : Nat := (min (max c 0) 10000).toNat
def Hd.new (c : Int) : Hd := ⟨cellsOf c, []⟩
set_option maxRecDepth 100000 in
theorem new_st (c : Int) (w : World) : Calls Tryd.prog 13 #[.int .i64 c] w fun e w' => ∃ hh, e = .returned (.pointer (some ⟨hh, 0, none⟩)) ∧ At w hh (cellsOf c) (fun _ => False) w' (Hd.new c) := by
  have hfin : At w w.heap.size (cellsOf c) (fun _ => False) (w.alloc (.cells #[.slice none 0 0, .int .i64 (min (max c 0) 10000)] 72)) (Hd.new c) := by
    have e : ((cellsOf c : Nat) : Int) = min (max c 0) 10000 := by unfold cellsOf; omega
    refine ⟨⟨⟨w.heap.size, .slice none 0 0, [], min (max c 0) 10000, []⟩, ⟨bk_new _ _, World.ownsRow_nil _ _ _ _, rfl, fun i p x hp => by simp at hp, by simp [Hs.blocks, Value.ownBlock]⟩, rfl, ?_, ?_, fun b hb => hb.elim⟩, ?_, (Pur.refl w).alloc _⟩
    · simp [Hs.d, Hd.new, e]
    · intro b hb
      simp [Hs.blocks, Value.ownBlock] at hb
      omega
    · refine ⟨by simp [Hd.new], by simp [Hd.new, Hd.taken], by unfold cellsOf; omega, fun i x hx => by simp [Hd.new] at hx⟩
  go_enter Tryd.func13, Tryd.ntmps13
  go_wp2
  go_ret
  exact ⟨_, rfl, hfin⟩
def Va.num' (x : Nat) : Va := ⟨3, x, [], 0⟩
theorem num_any (x : Nat) (w : World) : Calls Tryd.prog 14 #[.float .f64 x] w fun e w' => e = .returned (.agg #[.int .i64 3, .float .f64 x, .string ⟨#[]⟩, .int .i64 0]) ∧ Pur w w' := by
  go_enter Tryd.func14, Tryd.ntmps14
  go_wp2_with fail
  refine bodyPost_ret (v := .agg #[.int .i64 3, .float .f64 x, .string ⟨#[]⟩, .int .i64 0]) (by simp [results, Tryd.results14, go_sem]) rfl ⟨rfl, ?_⟩
  repeat (first | exact Pur.refl _ | with_reducible refine Pur.setCell ?_ (Nat.le_refl _) _ | with_reducible refine Pur.alloc ?_ _)
end Go.Proofs.YtfophnmnehpenaaDoor
