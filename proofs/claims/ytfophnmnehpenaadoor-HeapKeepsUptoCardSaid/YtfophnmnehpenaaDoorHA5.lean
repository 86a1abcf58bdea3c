/- Layer 8: an object that turns; the cells that are left. Layer 8: an object's items turned. Layer 8: (*Heap).resize. -/
import Derived.Test.YtfophnmnehpenaaDoorHA4
import Derived.Test.YtfophnmnehpenaaDoorAppZero
namespace Go.Proofs.YtfophnmnehpenaaDoor
open Go Go.RowKit
set_option linter.all false
def Hs.turn (s : Hs) (i : Nat) (p : Pl) (x : Ob) : Hs := ⟨s.h, s.ov, s.ps.set i p, s.left, s.xs.set i x⟩
def Hs.less (s : Hs) (c : Int) : Hs := ⟨s.h, s.ov, s.ps, c, s.xs⟩
theorem ptrs_set (ps : List Pl) (i : Nat) (p p' : Pl) (hp : ps[i]? = some p) (ho : p'.o = p.o) : ptrs (ps.set i p') = ptrs ps := by
  unfold ptrs
  rw [List.map_set, ho]
  apply List.ext_getElem?
  intro j
  by_cases hj : j = i
  · subst hj
    have hl := (List.getElem?_eq_some_iff.1 hp).1
    rw [List.getElem?_set_self (by simpa using hl), List.getElem?_map, hp]
    rfl
  · rw [List.getElem?_set_ne (fun e => hj e.symm)]
theorem set_split {α : Type} : ∀ (l : List α) (i : Nat) (a a' : α), l[i]? = some a → ∃ A B, l = A ++ a :: B ∧ l.set i a' = A ++ a' :: B
  | [], i, a, a', h => by simp at h
  | b :: r, 0, a, a', h => by
    obtain rfl : b = a := by simpa using h
    exact ⟨[], r, rfl, rfl⟩
  | b :: r, i + 1, a, a', h => by
    obtain ⟨A, B, h1, h2⟩ := set_split r i a a' (by simpa using h)
    exact ⟨b :: A, B, by rw [h1]; rfl, by rw [List.set_cons_succ, h2]; rfl⟩
/-- one object's place among all, put in another one's stead -/
theorem nodup_turn {L A B K K' : List Nat} (h : (L ++ (A ++ (K ++ B))).Nodup) (hk : K'.Nodup) (hd : ∀ b ∈ K', b ∈ K ∨ b ∉ L ++ (A ++ (K ++ B))) : (L ++ (A ++ (K' ++ B))).Nodup := by
  simp only [List.nodup_append] at h ⊢
  obtain ⟨h1, ⟨h2, ⟨h3, h4, h5⟩, h6⟩, h7⟩ := h
  have out : ∀ b ∈ K', (∀ a ∈ L, a ≠ b) ∧ (∀ a ∈ A, a ≠ b) ∧ (∀ a ∈ B, b ≠ a) := by
    intro b hb
    rcases hd b hb with hb | hb
    · exact ⟨fun a ha => h7 a ha b (by simp [hb]), fun a ha => h6 a ha b (by simp [hb]), fun a ha => h5 b hb a ha⟩
    · simp only [List.mem_append, not_or] at hb
      exact ⟨fun a ha e => hb.1 (e ▸ ha), fun a ha e => hb.2.1 (e ▸ ha), fun a ha e => hb.2.2.2 (e ▸ ha)⟩
  refine ⟨h1, ⟨h2, ⟨hk, h4, fun b hb a ha => (out b hb).2.2 a ha⟩, ?_⟩, ?_⟩
  · intro a ha b hb
    rcases List.mem_append.1 hb with hb | hb
    · exact (out b hb).2.1 a ha
    · exact h6 a ha b (by simp [hb])
  · intro a ha b hb
    rcases List.mem_append.1 hb with hb | hb
    · exact h7 a ha b (by simp [hb])
    · rcases List.mem_append.1 hb with hb | hb
      · exact (out b hb).1 a ha
      · exact h7 a ha b (by simp [hb])
theorem HpAt.turn {w w' : World} {s : Hs} (h : HpAt w s) {i : Nat} {p p' : Pl} {x x' : Ob} (hp : s.ps[i]? = some p) (hx : s.xs[i]? = some x) (hc : Chg p.blocks w w')
    (hob : ObIn w' p' x') (ho : p'.o = p.o) (hpn : p'.blocks.Nodup) (hnew : ∀ b ∈ p'.blocks, b ∈ p.blocks ∨ w.heap.size ≤ b) : HpAt w' (s.turn i p' x') ∧ Step w s w' (s.turn i p' x') := by
  have hap := h.apart
  obtain ⟨A, B, hA, hB⟩ := set_split s.ps i p p' hp
  have e1 : s.blocks = (s.h :: s.ov.ownBlock.toList) ++ (A.flatMap Pl.blocks ++ (p.blocks ++ B.flatMap Pl.blocks)) := by
    unfold Hs.blocks; rw [hA]; simp
  have e2 : (s.turn i p' x').blocks = (s.h :: s.ov.ownBlock.toList) ++ (A.flatMap Pl.blocks ++ (p'.blocks ++ B.flatMap Pl.blocks)) := by
    unfold Hs.blocks Hs.turn; simp only; rw [hB]; simp
  have hmem := List.mem_of_getElem? hp
  have hsub : ∀ b ∈ p.blocks, b ∈ s.blocks := fun b hb => mem_blocks hmem hb
  have hl := (List.getElem?_eq_some_iff.1 hp).1
  have hout : ∀ b, w.heap.size ≤ b → b ∉ s.blocks := fun b hb hm => by have := h.lt b hm; omega
  rw [e1] at hap
  have hL : ∀ b ∈ s.h :: s.ov.ownBlock.toList, b ∉ p.blocks := fun b hb hb' => by
    rw [List.nodup_append] at hap
    exact hap.2.2 b hb b (by simp [hb']) rfl
  have hAB : ∀ b, b ∈ A.flatMap Pl.blocks ∨ b ∈ B.flatMap Pl.blocks → b ∉ p.blocks := fun b hb hb' => by
    rw [List.nodup_append, List.nodup_append, List.nodup_append] at hap
    rcases hb with hb | hb
    · exact hap.2.1.2.2 b hb b (by simp [hb']) rfl
    · exact hap.2.1.2.1.2.2 b hb' b hb rfl
  refine ⟨⟨?_, ?_, ?_, ?_, ?_⟩, ⟨?_, rfl, ?_⟩⟩
  · exact (hc.block _ (bk_lt h.own) (hL _ (by simp))).trans h.own
  · have := World.ownsRow_same h.row (fun g hg => hc.block g (h.row.lt g hg).2 (hL g (by simp [hg])))
    show World.ownsRow w' 0 _ 1 s.ov (s.ps.set i p').length (ptrs (s.ps.set i p'))
    rw [List.length_set, ptrs_set _ _ _ _ hp ho]
    exact this
  · simp [Hs.turn, h.len]
  · intro j q y hq hy
    simp only [Hs.turn] at hq hy
    by_cases hj : j = i
    · subst hj
      rw [List.getElem?_set_self hl] at hq
      rw [List.getElem?_set_self (by rw [h.len]; exact hl)] at hy
      cases hq
      cases hy
      exact hob
    · rw [List.getElem?_set_ne (fun e => hj e.symm)] at hq hy
      have hin := h.each j q y hq hy
      refine hin.same fun b hb => hc.block b (hin.lt b hb) (hAB b ?_)
      have hq' : (s.ps.set i p')[j]? = some q := by rw [List.getElem?_set_ne (fun e => hj e.symm)]; exact hq
      have hq2 := hq
      rw [hA] at hq2
      have hAl : A.length = i := by
        have e3 := congrArg List.length hA
        have e4 : (A ++ p' :: B)[A.length]? = some p' := by simp
        have e5 : (A ++ p :: B)[i]? = some p := by rw [← hA]; exact hp
        by_cases hlt : A.length < i
        · exfalso
          have e6 : (s.ps.set i p)[i]? = some p := by rw [List.getElem?_set_self hl]
          have e7 : s.ps[A.length]? = some p := by rw [hA]; simp
          have d := hap
          have e8 : B[i - A.length - 1]? = some p := by
            rw [List.getElem?_append_right (by omega)] at e5
            rw [show i - A.length = (i - A.length - 1) + 1 by omega] at e5
            simpa using e5
          exact hAB p.o (.inr (List.mem_flatMap.2 ⟨p, List.mem_of_getElem? e8, by simp [Pl.blocks]⟩)) (by simp [Pl.blocks])
        · by_cases hgt : i < A.length
          · exfalso
            rw [List.getElem?_append_left hgt] at e5
            exact hAB p.o (.inl (List.mem_flatMap.2 ⟨p, List.mem_of_getElem? e5, by simp [Pl.blocks]⟩)) (by simp [Pl.blocks])
          · omega
      by_cases hjl : j < A.length
      · rw [List.getElem?_append_left hjl] at hq2
        exact .inl (List.mem_flatMap.2 ⟨q, List.mem_of_getElem? hq2, hb⟩)
      · rw [List.getElem?_append_right (by omega)] at hq2
        rw [show j - A.length = (j - A.length - 1) + 1 by omega] at hq2
        exact .inr (List.mem_flatMap.2 ⟨q, List.mem_of_getElem? (by simpa using hq2), hb⟩)
  · rw [e2]
    refine nodup_turn hap hpn fun b hb => ?_
    rcases hnew b hb with hb | hb
    · exact .inl hb
    · exact .inr (by rw [← e1]; exact hout b hb)
  · exact ⟨hc.os, hc.tape, hc.output, hc.size, fun k hk hn => hc.block k hk (fun hm => hn (hsub k hm))⟩
  · intro b hb
    rw [e2] at hb
    rw [e1]
    simp only [List.mem_append] at hb ⊢
    rcases hb with hb | hb | hb | hb
    · exact .inl (.inl hb)
    · exact .inl (.inr (.inl hb))
    · rcases hnew b hb with hb | hb
      · exact .inl (.inr (.inr (.inl hb)))
      · exact .inr hb
    · exact .inl (.inr (.inr (.inr hb)))
theorem HpAt.less {w : World} {s : Hs} (h : HpAt w s) (c : Int) : HpAt (w.setCell ⟨s.h, 1, none⟩ (.int .i64 c)) (s.less c) ∧ Step w s (w.setCell ⟨s.h, 1, none⟩ (.int .i64 c)) (s.less c) := by
  have hap := h.apart
  unfold Hs.blocks at hap
  rw [List.nodup_cons] at hap
  have keep : ∀ b, b ≠ s.h → (w.setCell ⟨s.h, 1, none⟩ (.int .i64 c)).heap[b]? = w.heap[b]? := fun b hb => RowKit.Below.heap_setCell _ _ _ _ hb
  refine ⟨⟨bk_set h.own 1 _, ?_, h.len, fun j q y hq hy => ?_, h.apart⟩, ⟨⟨rfl, rfl, rfl, by simp [World.setCell], fun k hk hn => keep k (fun e => hn (by rw [e]; simp [Hs.blocks]))⟩, rfl, fun b hb => .inl hb⟩⟩
  · exact World.ownsRow_same h.row (fun g hg => keep g (fun e => hap.1 (List.mem_append_left _ (by rw [← e, show s.ov.ownBlock = some g from hg]; simp))))
  · exact (h.each j q y hq hy).same fun b hb => keep b (fun e => hap.1 (List.mem_append_right _ (List.mem_flatMap.2 ⟨q, List.mem_of_getElem? hq, e ▸ hb⟩)))
theorem HpAt.pl {w : World} {s : Hs} (h : HpAt w s) {i : Int} {x : Ob} (hx : s.d.obj i = some x) : ∃ p, s.ps[i.toNat]? = some p ∧ s.xs[i.toNat]? = some x ∧ s.at i = some ⟨p.o, 0, none⟩ ∧ ObIn w p x := by
  obtain ⟨-, h0, h1, h2⟩ := Hd.obj_mem hx
  have h3 : i.toNat < s.ps.length := by have := h.len; simp only [Hs.d] at h1; omega
  refine ⟨s.ps[i.toNat], List.getElem?_eq_getElem h3, h2, ?_, h.each _ _ _ (List.getElem?_eq_getElem h3) h2⟩
  unfold Hs.at
  rw [if_neg (by omega), List.getElem?_eq_getElem h3]
  rfl
theorem turn_at (s : Hs) (i : Nat) (p p' : Pl) (x' : Ob) (hp : s.ps[i]? = some p) (ho : p'.o = p.o) (j : Int) : (s.turn i p' x').at j = s.at j := by
  unfold Hs.at Hs.turn
  simp only [List.length_set]
  by_cases h : j < 0 ∨ (s.ps.length : Int) ≤ j
  · rw [if_pos h, if_pos h]
  · rw [if_neg h, if_neg h]
    by_cases hj : j.toNat = i
    · rw [hj, List.getElem?_set_self (List.getElem?_eq_some_iff.1 hp).1, hp]
      simp [ho]
    · rw [List.getElem?_set_ne (fun e => hj e.symm)]
theorem pl_nodup {w : World} {s : Hs} (h : HpAt w s) {i : Nat} {p : Pl} (hp : s.ps[i]? = some p) : p.blocks.Nodup := by
  have hap := h.apart
  unfold Hs.blocks at hap
  rw [List.nodup_cons, List.nodup_append] at hap
  obtain ⟨A, B, hA, -⟩ := set_split s.ps i p p hp
  have := hap.2.2.1
  rw [hA, List.flatMap_append, List.flatMap_cons, List.nodup_append, List.nodup_append] at this
  exact this.2.1.1
theorem pl_head {w : World} {s : Hs} (h : HpAt w s) {i : Nat} {p : Pl} (hp : s.ps[i]? = some p) : s.h ∉ p.blocks := by
  have hap := h.apart
  unfold Hs.blocks at hap
  rw [List.nodup_cons] at hap
  exact fun hm => hap.1 (List.mem_append_right _ (List.mem_flatMap.2 ⟨p, List.mem_of_getElem? hp, hm⟩))
end Go.Proofs.YtfophnmnehpenaaDoor
namespace Go.Proofs.YtfophnmnehpenaaDoor
open Go Go.RowKit
set_option linter.all false
theorem Chg.sub {S T : List Nat} {w w' : World} (h : Chg S w w') (hs : ∀ b ∈ S, b ∈ T) : Chg T w w' := ⟨h.os, h.tape, h.output, h.size, fun k hk hn => h.block k hk (fun hm => hn (hs k hm))⟩
theorem Chg.trans {S : List Nat} {w w1 w2 : World} (h : Chg S w w1) (k : Chg S w1 w2) : Chg S w w2 :=
  ⟨k.os.trans h.os, k.tape.trans h.tape, k.output.trans h.output, Nat.le_trans h.size k.size, fun i hi hn => (k.block i (Nat.lt_of_lt_of_le hi h.size) hn).trans (h.block i hi hn)⟩
theorem Chg.pur {w w' : World} (h : Pur w w') (S : List Nat) : Chg S w w' := ⟨h.os, h.tape, h.output, h.size, fun k hk _ => h.block k hk⟩
theorem Chg.grown {w w' : World} {r : Option Nat} (h : w.grownBy w' r) : Chg r.toList w w' := ⟨h.os, h.tape, h.output, h.size, fun k hk hn => h.block k hk (fun e => hn (by rw [← e]; simp))⟩
theorem Chg.set (w : World) (a : Addr) (v : Value) : Chg [a.block] w (w.setCell a v) := ⟨rfl, rfl, rfl, by simp [World.setCell], fun k _ hn => RowKit.Below.heap_setCell _ _ _ _ (by simpa using hn)⟩
theorem HpAt.items {w w2 : World} {s : Hs} (h : HpAt w s) {i : Nat} {p : Pl} {x : Ob} (hp : s.ps[i]? = some p) (hx : s.xs[i]? = some x) {v' : Value} {l : List Va}
    (hc : Chg (p.o :: p.iv.ownBlock.toList) w w2)
    (ho : w2.heap[p.o]? = some (.cells #[.int .i64 x.kind, .int .i64 x.proto, .int .i64 x.a, .int .i64 x.b, .int .i64 x.scope, p.kv, .map (some p.m), v'] 78 (0, 0)))
    (hv : w2.ownsRow 0 33 4 v' l.length (l.flatMap Va.cells)) (hid : ∀ b, v'.ownBlock = some b → p.iv.ownBlock = some b ∨ w.heap.size ≤ b) :
    HpAt w2 (s.turn i ⟨p.o, p.m, p.kv, v'⟩ { x with items := l }) ∧ Step w s w2 (s.turn i ⟨p.o, p.m, p.kv, v'⟩ { x with items := l }) := by
  have hob := h.each i p x hp hx
  have hnd := pl_nodup h hp
  have hlt := hob.lt
  unfold Pl.blocks at hnd
  simp only [List.nodup_cons, List.mem_cons, List.mem_append, not_or, Option.mem_toList] at hnd
  obtain ⟨⟨n1, n2, n3⟩, ⟨n4, n5⟩, n6⟩ := hnd
  rw [List.nodup_append] at n6
  obtain ⟨n7, n8, n9⟩ := n6
  have kk : ∀ g, p.kv.ownBlock = some g → w2.heap[g]? = w.heap[g]? := fun g hg => hc.block g (hlt g (by simp [Pl.blocks, hg])) (by
    simp only [List.mem_cons, Option.mem_toList, not_or]
    exact ⟨fun e => n2 (e ▸ hg), fun e => n9 g (by simp [hg]) g (by simpa using e) rfl⟩)
  refine h.turn hp hx (hc.sub fun b hb => ?_) ⟨ho, World.ownsRow_same hob.keys kk, hob.props.same (hc.block p.m (hlt p.m (by simp [Pl.blocks])) ?_), hv⟩ rfl ?_ ?_
  · rcases List.mem_cons.1 hb with rfl | hb
    · simp [Pl.blocks]
    · simp only [Pl.blocks, List.mem_cons, List.mem_append]; exact .inr (.inr (.inr hb))
  · simp only [List.mem_cons, Option.mem_toList, not_or]
    exact ⟨fun e => n1 e.symm, n5⟩
  · have f1 : ∀ b, v'.ownBlock = some b → b ≠ p.o ∧ b ≠ p.m ∧ p.kv.ownBlock ≠ some b := fun b hb => by
      rcases hid b hb with e | e
      · exact ⟨fun h => n3 (h ▸ e), fun h => n5 (h ▸ e), fun h => n9 b (by simp [h]) b (by simp [e]) rfl⟩
      · refine ⟨fun h => ?_, fun h => ?_, fun h => ?_⟩
        · have := hlt p.o (by simp [Pl.blocks]); omega
        · have := hlt p.m (by simp [Pl.blocks]); omega
        · have := hlt b (by simp [Pl.blocks, h]); omega
    unfold Pl.blocks
    simp only [List.nodup_cons, List.mem_cons, List.mem_append, not_or, Option.mem_toList, List.nodup_append]
    refine ⟨⟨n1, n2, fun e => (f1 _ e).1 rfl⟩, ⟨n4, fun e => (f1 _ e).2.1 rfl⟩, n7, by cases v'.ownBlock <;> simp, fun a ha b hb e => (f1 b hb).2.2 (by rw [← e]; exact ha)⟩
  · intro b hb
    simp only [Pl.blocks, List.mem_cons, List.mem_append, Option.mem_toList] at hb ⊢
    rcases hb with rfl | rfl | hb | hb
    · exact .inl (.inl rfl)
    · exact .inl (.inr (.inl rfl))
    · exact .inl (.inr (.inr (.inl hb)))
    · rcases hid b hb with e | e
      · exact .inl (.inr (.inr (.inr e)))
      · exact .inr e
/-- the items' slice turned, behind an operation that made it -/
theorem HpAt.slice {w w1 : World} {s : Hs} (h : HpAt w s) {i : Nat} {p : Pl} {x : Ob} (hp : s.ps[i]? = some p) (hx : s.xs[i]? = some x) {v' : Value} {l : List Va}
    (hg : w.grownBy w1 p.iv.ownBlock) (hv : w1.ownsRow 0 33 4 v' l.length (l.flatMap Va.cells)) (hid : ∀ b, v'.ownBlock = some b → p.iv.ownBlock = some b ∨ w.heap.size ≤ b) :
    HpAt (w1.setCell ⟨p.o, 7, none⟩ v') (s.turn i ⟨p.o, p.m, p.kv, v'⟩ { x with items := l }) ∧ Step w s (w1.setCell ⟨p.o, 7, none⟩ v') (s.turn i ⟨p.o, p.m, p.kv, v'⟩ { x with items := l }) := by
  have hob := h.each i p x hp hx
  have hnd := pl_nodup h hp
  have hlt := hob.lt
  unfold Pl.blocks at hnd
  simp only [List.nodup_cons, List.mem_cons, List.mem_append, not_or, Option.mem_toList] at hnd
  obtain ⟨⟨n1, n2, n3⟩, ⟨n4, n5⟩, n6⟩ := hnd
  have ho1 := (hg.block p.o (hlt p.o (by simp [Pl.blocks])) (fun e => n3 e.symm)).trans hob.own
  refine h.items hp hx (((Chg.grown hg).sub (T := p.o :: p.iv.ownBlock.toList) (fun b hb => List.mem_cons_of_mem _ hb)).trans ((Chg.set w1 ⟨p.o, 7, none⟩ v').sub (fun b hb => by simp at hb; simp [hb]))) (bk_set ho1 7 v') ?_ hid
  refine World.ownsRow_same hv fun g hg' => RowKit.Below.heap_setCell _ _ _ _ fun e => ?_
  simp only at e
  subst e
  rcases hid _ hg' with e | e
  · exact n3 e
  · have := hlt p.o (by simp [Pl.blocks]); omega
theorem grown_pur {w w' : World} (h : Pur w w') (r : Option Nat) : w.grownBy w' r := ⟨h.os, h.tape, h.output, h.size, fun k hk _ => h.block k hk⟩
theorem va_info' : (Tryd.prog.info? 33).map (fun i => (i.zero.map (·.cells), i.size, i.bytes)) = some (some Va.zero.cells.toArray, 4, 40) := by kernel_rfl
theorem zero_cells (m : Nat) : (Builtin.zeroCells Va.zero.cells.toArray m).toList = (List.replicate m Va.zero).flatMap Va.cells := by
  apply List.ext_getElem?
  intro j
  have hl : ((List.replicate m Va.zero).flatMap Va.cells).length = m * 4 := by rw [va_len, List.length_replicate]
  by_cases hj : j < m * 4
  · have hv := va_at (List.replicate m Va.zero) (j / 4) Va.zero (by rw [List.getElem?_replicate, if_pos (by omega)]) (j % 4) (Va.zero.cells[j % 4]'(Nat.mod_lt _ (by decide))) (List.getElem?_eq_getElem _)
    rw [show j / 4 * 4 + j % 4 = j by omega] at hv
    rw [hv]
    have hs : Va.zero.cells.toArray.size = 4 := rfl
    simp only [Builtin.zeroCells, hs, Array.getElem?_toList]
    rw [Array.getElem?_map, Array.getElem?_range, if_pos hj]
    simp only [Option.map_some]
    congr 1
    rw [getElem!_pos Va.zero.cells.toArray (j % 4) (Nat.mod_lt _ (by decide))]
    rfl
  · have hz : (Builtin.zeroCells Va.zero.cells.toArray m).toList.length = m * 4 := by simp [Builtin.zeroCells, Va.zero, Va.cells]
    rw [List.getElem?_eq_none (by rw [hz]; omega), List.getElem?_eq_none (by rw [hl]; omega)]
end Go.Proofs.YtfophnmnehpenaaDoor
namespace Go.Proofs.YtfophnmnehpenaaDoor
open Go Go.RowKit
set_option linter.all false
/-- what a heap's call of an object leaves: the answer, and the heap behind it -/
def Left (w : World) (s : Hs) (w' : World) (d : Hd) : Prop := ∃ s', HpAt w' s' ∧ Step w s w' s' ∧ s'.d = d ∧ ∀ j, s'.at j = s.at j
theorem less_at (s : Hs) (c : Int) (j : Int) : (s.less c).at j = s.at j := rfl
theorem VRead.take {w : World} {v : Value} {vs : List Va} (h : VRead w v vs) {a : Option Addr} {m c : Nat} (hv : v = .slice a m c) (n : Nat) (hn : n ≤ vs.length) (hpos : vs ≠ []) (c' : Nat) : VRead w (.slice a n c') (vs.take n) := by
  rcases h with ⟨rfl, rfl⟩ | ⟨b, o, c, rfl, hb, hc⟩
  · exact absurd rfl hpos
  · simp only [Value.slice.injEq] at hv
    obtain ⟨rfl, -, -⟩ := hv
    refine .inr ⟨b, o, c', ?_, hb, fun j u hu => hc j u ?_⟩
    · rw [List.length_take, Nat.min_eq_left hn]
    · have e : vs = vs.take n ++ vs.drop n := (List.take_append_drop n vs).symm
      rw [e, List.flatMap_append, List.getElem?_append_left (List.getElem?_eq_some_iff.1 hu).1]
      exact hu
set_option maxRecDepth 100000 in
set_option maxHeartbeats 4000000 in
theorem resize_any (s : Hs) (i : Int) (x : Ob) (o n : Nat) (w : World) (h : HpAt w s) (hx : s.d.obj i = some x) (ho : s.at i = some ⟨o, 0, none⟩) (hn : n ≤ 2147483648) {G : Nat} (hok : s.d.Ok G) :
    Calls Tryd.prog 42 #[.pointer (some ⟨s.h, 0, none⟩), .pointer (some ⟨o, 0, none⟩), .int .i64 n] w fun e w' =>
      e = .returned (.int .i64 (s.d.resize i x n).1) ∧ Left w s w' (s.d.resize i x n).2 := by
  obtain ⟨p, hp, hxx, hat, hob⟩ := h.pl hx
  obtain rfl : p.o = o := by rw [ho] at hat; simpa using hat.symm
  have hb := hok.bounds
  have hil := (hok.mem (Hd.obj_mem hx).1).2
  simp only [Hs.d] at hb
  obtain ⟨a, c, hiv⟩ := row_shape hob.items
  have Q7 : ∀ y : PW w, y.to.cell? ⟨p.o, 7, none⟩ = some (.slice a x.items.length c) := fun y => bk_cell (bk_pur hob.own y.pur) 7 _ (by rw [← hiv]; rfl)
  have Q1 : ∀ y : PW w, y.to.cell? ⟨s.h, 1, none⟩ = some (.int .i64 s.left) := fun y => bk_cell (bk_pur h.own y.pur) 1 _ rfl
  have wr1 : IntKind.i64.wrap ((n : Int) - x.items.length) = n - x.items.length := IntWalk.i64_in _ (by omega)
  obtain ⟨R, hR⟩ : ∃ R, s.d.resize i x n = R := ⟨_, rfl⟩
  rw [hR]
  unfold Hd.resize at hR
  by_cases hlt : s.left < (n : Int) - x.items.length
  · rw [if_pos (show s.d.left < _ from hlt)] at hR
    subst hR
    have hfin : ∀ w', Pur w w' → Left w s w' s.d := fun w' hpp => ⟨s, h.pur hpp, Step.pur hpp, rfl, fun _ => rfl⟩
    have hd := decide_eq_true hlt
    clear h hx ho hok hp hxx hat hob hiv
    go_enter Tryd.func42, Tryd.ntmps42
    go_wp2_with fail
    refine wp_region_pur (by kernel_rfl) (by kernel_rfl) ?_
    repeat (go_big_quiet_step (fail))
    refine wpQuiet_nil ?_
    intro w1 h1
    go_wp2
    go_ret
    exact ⟨rfl, hfin _ h1⟩
  · rw [if_neg (show ¬ s.d.left < _ from hlt)] at hR
    have hd := decide_eq_false hlt
    have wr2 : IntKind.i64.wrap (s.left - ((n : Int) - x.items.length)) = s.left - (n - x.items.length) := IntWalk.i64_in _ (by omega)
    have LS : ∀ w2, Pur w w2 → HpAt (w2.setCell ⟨s.h, 1, none⟩ (.int .i64 (s.left - ((n : Int) - x.items.length)))) (s.less (s.left - ((n : Int) - x.items.length))) ∧ Step w s (w2.setCell ⟨s.h, 1, none⟩ (.int .i64 (s.left - ((n : Int) - x.items.length)))) (s.less (s.left - ((n : Int) - x.items.length))) := fun w2 h2 =>
      ⟨((h.pur h2).less (s.left - ((n : Int) - x.items.length))).1, (Step.pur h2).trans ((h.pur h2).less (s.left - ((n : Int) - x.items.length))).2⟩
    have hpl : (s.less (s.left - ((n : Int) - x.items.length))).ps[i.toNat]? = some p := hp
    have hxl : (s.less (s.left - ((n : Int) - x.items.length))).xs[i.toNat]? = some x := hxx
    have F1 : ∀ w2, Pur w w2 → w2.frozen? ⟨s.h, 1, none⟩ = false ∧ w2.cell? ⟨s.h, 1, none⟩ = some (.int .i64 s.left) := fun w2 h2 => ⟨bk_free (bk_pur h.own h2) 1, bk_cell (bk_pur h.own h2) 1 _ rfl⟩
    by_cases hs : n < x.items.length
    · have hsI : (n : Int) < x.items.length := by omega
      have hxr : x.resize n = { x with items := x.items.take n } := by unfold Ob.resize; rw [if_pos hs]
      rw [hxr] at hR
      subst hR
      have hfin : ∀ (w3 w4 : World) (v' : Value), HpAt w3 (s.less (s.left - ((n : Int) - x.items.length))) → Step w s w3 (s.less (s.left - ((n : Int) - x.items.length))) → Pur w3 w4 → w4.ownsRow w3.heap.size 33 4 v' (x.items.take n).length ((x.items.take n).flatMap Va.cells) → Left w s (w4.setCell ⟨p.o, 7, none⟩ v') (s.d.turn i { x with items := x.items.take n } (s.left - ((n : Int) - x.items.length))) := fun w3 w4 v' h3 k3 hpp hv => by
        have hlt3 := h3.lt
        have := h3.slice hpl hxl (grown_pur hpp _) (row_low hv (Nat.zero_le _)) (fun b hb' => .inr (hv.lt b hb').1)
        exact ⟨_, this.1, k3.trans this.2, rfl, fun j => (turn_at (s.less (s.left - ((n : Int) - x.items.length))) i.toNat p ⟨p.o, p.m, p.kv, v'⟩ _ hpl rfl j).trans (less_at s _ j)⟩
      have hfr : ∀ (w3 : World), HpAt w3 (s.less (s.left - ((n : Int) - x.items.length))) → ∀ w4, Pur w3 w4 → w4.frozen? ⟨p.o, 7, none⟩ = false ∧ w4.cell? ⟨p.o, 7, none⟩ = some (.slice a x.items.length c) ∧ VRead w4 (.slice a n c) (x.items.take n) := fun w3 h3 w4 h4 => by
        have hb3 := (h3.pur h4).each _ _ _ hpl hxl
        refine ⟨bk_free hb3.own 7, bk_cell hb3.own 7 _ (by rw [← hiv]; rfl), (VRead.of_own hb3.items).take hiv n (by omega) (fun e => by rw [e] at hs; simp at hs) c⟩
      have CL := fun w4 (hv : VRead w4 (.slice a n c) (x.items.take n)) => clone_any _ _ w4 hv (by rw [List.length_take]; omega)
      have hcap : n ≤ c := by
        rcases hob.items.2 with ⟨e1, e2⟩ | ⟨g, cap, cur, e1, -, -, e2, -⟩
        · omega
        · rw [hiv] at e1
          simp only [Value.slice.injEq] at e1
          omega
      have hcapI : (n : Int) ≤ c := by omega
      clear h hx ho hok hp hxx hat hob hpl hxl hiv hxr hlt
      go_enter Tryd.func42, Tryd.ntmps42
      go_wp2_with fail
      refine wp_region_pur (by kernel_rfl) (by kernel_rfl) ?_
      repeat (go_big_quiet_step (fail))
      refine wpQuiet_nil ?_
      intro w1 h1
      have Q7' : ∀ y : PW w1, y.to.cell? ⟨p.o, 7, none⟩ = some (.slice a x.items.length c) := fun y => Q7 ⟨y.to, h1.trans y.pur⟩
      have Q1' : ∀ y : PW w1, y.to.cell? ⟨s.h, 1, none⟩ = some (.int .i64 s.left) := fun y => Q1 ⟨y.to, h1.trans y.pur⟩
      clear Q7 Q1
      go_wp2_with fail
      refine wp_region_pur_tail 12 (by kernel_rfl) (by kernel_rfl) ?_
      simp only [List.take_succ_cons, List.take_zero, List.drop_succ_cons, List.drop_zero]
      repeat (go_big_quiet_step (fail))
      refine wpQuiet_nil ?_
      intro w2 h2
      obtain ⟨f1, g1⟩ := F1 _ (h1.trans h2)
      obtain ⟨h3, k3⟩ := LS _ (h1.trans h2)
      obtain ⟨f7, q7, v7⟩ := hfr _ h3 _ (Pur.refl _)
      have CL' := CL _ v7
      have hfin' := fun w4 v' => hfin _ w4 v' h3 k3
      have hfr' := hfr _ h3
      clear hfin hfr CL LS F1 h3 k3 v7 f7 Q7' Q1'
      go_wp2_with fail
      refine CL'.mono ?_
      rintro e w4 ⟨v', rfl, h4, hrow⟩
      obtain ⟨f7, q7', -⟩ := hfr' _ h4
      have HF := hfin' w4 v' h4 hrow
      have hrow2 := hrow
      rw [show (x.items.take n).length = n by rw [List.length_take]; omega] at hrow2
      obtain ⟨a3, c3, rfl⟩ := row_shape hrow2
      clear hrow2
      clear CL' hfin' hfr' hrow q7 f1 g1
      go_wp2
      go_ret
      exact ⟨rfl, HF⟩
    · obtain ⟨m, hnm⟩ : ∃ m, n = x.items.length + m := ⟨n - x.items.length, by omega⟩
      have hm : m ≤ 10000 := by omega
      have hsI : ¬ (n : Int) < x.items.length := by omega
      have hsD : decide ((n : Int) < x.items.length) = false := decide_eq_false hsI
      have hxr : x.resize n = { x with items := x.items ++ List.replicate m Va.zero } := by
        unfold Ob.resize; rw [if_neg hs, hnm, Nat.add_sub_cancel_left]
      rw [hxr] at hR
      subst hR
      obtain ⟨i0, hi, hz⟩ := Option.map_eq_some_iff.1 va_info'
      simp only [Prod.mk.injEq] at hz
      obtain ⟨hz0, hz1, hz2⟩ := hz
      obtain ⟨z0, hz0, hzs⟩ := Option.map_eq_some_iff.1 hz0
      have hlen : (x.items ++ List.replicate m Va.zero).length = x.items.length + m := by simp
      have hfin : ∀ (w3 w4 w5 : World) (v' : Value), HpAt w3 (s.less (s.left - ((n : Int) - x.items.length))) → Step w s w3 (s.less (s.left - ((n : Int) - x.items.length))) → Pur w3 w4 → w4.grownBy w5 (Value.slice a x.items.length c).ownBlock → w5.ownsRow 0 33 4 v' n (x.items.flatMap Va.cells ++ (Builtin.zeroCells z0.cells m).toList) → (v'.ownBlock = (Value.slice a x.items.length c).ownBlock ∨ v'.ownBlock = some w4.heap.size) → Left w s (w5.setCell ⟨p.o, 7, none⟩ v') (s.d.turn i { x with items := x.items ++ List.replicate m Va.zero } (s.left - ((n : Int) - x.items.length))) := fun w3 w4 w5 v' h3 k3 hpp hg hv hid => by
        have h4 := h3.pur hpp
        have hv2 := hv
        rw [hzs, zero_cells, ← List.flatMap_append, hnm, ← hlen] at hv2
        rw [← hiv] at hg hid
        have := h4.slice hpl hxl hg hv2 (fun b hb' => by
          rcases hid with e | e
          · exact .inl (e ▸ hb')
          · rw [hb'] at e; simp only [Option.some.injEq] at e; exact .inr (by omega))
        exact ⟨_, this.1, k3.trans ((Step.pur hpp).trans this.2), rfl, fun j => (turn_at (s.less (s.left - ((n : Int) - x.items.length))) i.toNat p ⟨p.o, p.m, p.kv, v'⟩ _ hpl rfl j).trans (less_at s _ j)⟩
      have hfr : ∀ (w3 : World), HpAt w3 (s.less (s.left - ((n : Int) - x.items.length))) → ∀ w4, Pur w3 w4 → w4.heap[p.o]? = some (.cells #[.int .i64 x.kind, .int .i64 x.proto, .int .i64 x.a, .int .i64 x.b, .int .i64 x.scope, p.kv, .map (some p.m), .slice a x.items.length c] 78 (0, 0)) ∧ w4.ownsRow 0 33 4 (.slice a x.items.length c) x.items.length (x.items.flatMap Va.cells) := fun w3 h3 w4 h4 => by
        have hb3 := (h3.pur h4).each _ _ _ hpl hxl
        rw [← hiv]
        exact ⟨hb3.own, hb3.items⟩
      have hne : (Value.slice a x.items.length c).ownBlock ≠ some p.o := by
        rw [← hiv]
        have := pl_nodup h hp
        unfold Pl.blocks at this
        intro e
        rw [e] at this
        simp at this
      clear h hx ho hok hp hxx hat hob hpl hxl hiv hxr hlt hs hlen
      have HN := Lib.hid hnm
      have hmI : Hid ((n : Int) - x.items.length = m) := Lib.hid (by omega)
      clear hnm
      go_enter Tryd.func42, Tryd.ntmps42
      go_wp2_with fail
      refine wp_region_pur (by kernel_rfl) (by kernel_rfl) ?_
      repeat (go_big_quiet_step (fail))
      refine wpQuiet_nil ?_
      intro w1 h1
      have Q7' : ∀ y : PW w1, y.to.cell? ⟨p.o, 7, none⟩ = some (.slice a x.items.length c) := fun y => Q7 ⟨y.to, h1.trans y.pur⟩
      have Q1' : ∀ y : PW w1, y.to.cell? ⟨s.h, 1, none⟩ = some (.int .i64 s.left) := fun y => Q1 ⟨y.to, h1.trans y.pur⟩
      clear Q7 Q1
      go_wp2_with fail
      refine wp_region_pur_tail 12 (by kernel_rfl) (by kernel_rfl) ?_
      simp only [List.take_succ_cons, List.take_zero, List.drop_succ_cons, List.drop_zero]
      repeat (go_big_quiet_step (fail))
      refine wpQuiet_nil ?_
      intro w2 h2
      obtain ⟨f1, g1⟩ := F1 _ (h1.trans h2)
      obtain ⟨h3, k3⟩ := LS _ (h1.trans h2)
      have q7 := bk_cell (hfr _ h3 _ (Pur.refl _)).1 7 _ rfl
      have Q7 : ∀ y : PW (w2.setCell ⟨s.h, 1, none⟩ (.int .i64 (s.left - ((n : Int) - x.items.length)))), y.to.cell? ⟨p.o, 7, none⟩ = some (.slice a x.items.length c) := fun y => bk_cell (hfr _ h3 _ y.pur).1 7 _ rfl
      have hfin' := fun w4 w5 v' => hfin _ w4 w5 v' h3 k3
      have hfr' := hfr _ h3
      clear hfin hfr LS F1 h3 k3 Q7' Q1'
      go_wp2_with fail
      clear f1 g1 q7
      refine wp_region_pur_tail_m 12 [0] [1, 2, 3, 4, 5, 6, 7, 8, 9, 10, 11] (by kernel_rfl) (by kernel_rfl) (fun d _ _ _ _ h => by cases d <;> exact h) ?_
      simp only [List.filterMap_cons, List.filterMap_nil, List.getElem?_cons_succ, List.getElem?_cons_zero, List.drop_succ_cons, List.drop_zero, putM, isMove, List.foldl_cons, List.foldl_nil]
      repeat (quiet_step (fail))
      refine wpQuiet_nil ?_
      intro w4 h4
      obtain ⟨B4, R4⟩ := hfr' _ h4
      refine wpList_append_own_zeros _ rfl _ _ 30 3 rfl 0 33 .i64 .i64 i0 z0 4 40 Tryd.underlying30 Tryd.underlying3 hi hz0 hz1 hz2 (by rw [hzs]; rfl) (by decide) (by rw [hzs]; simp [Va.zero, Va.cells, Value.oneCell']) _ _ _ rfl R4 m ?cx ?c1 ?c2 (Nat.zero_le _) ?_
      case cx => exact congrArg (Value.int IntKind.i64) hmI.out
      case c1 => have := HN.out; unfold maxLen; omega
      case c2 => have := HN.out; omega
      rw [← HN.out]
      intro v5 w5 hown5 hgrow hid
      have B5 := (hgrow.block _ (bk_lt B4) (fun e => hne e.symm)).trans B4
      have f7 := bk_free B5 7
      have q7 := bk_cell B5 7 _ rfl
      have HF := hfin' w4 w5 v5 h4 hgrow hown5 hid
      obtain ⟨a5, c5, rfl⟩ := row_shape hown5
      clear hfin' hfr' hown5 hgrow hid B4 B5 R4 Q7
      go_wp2
      go_ret
      exact ⟨rfl, HF⟩
end Go.Proofs.YtfophnmnehpenaaDoor
