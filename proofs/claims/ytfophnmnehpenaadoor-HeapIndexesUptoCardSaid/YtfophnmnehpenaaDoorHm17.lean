/- Layer 8: an object that turns; the cells that are left. -/
import Derived.Test.YtfophnmnehpenaaDoorHm9
namespace Go.Proofs.YtfophnmnehpenaaDoor
open Go Go.RowKit
set_option linter.all false
def Hs.turn (s : Hs) (i : Nat) (p : Pl) (x : Ob) : Hs := ⟨s.h, s.ov, s.ps.set i p, s.left, s.xs.set i x⟩
def Hs.less (s : Hs) (c : Int) : Hs := ⟨s.h, s.ov, s.ps, c, s.xs⟩
theorem ptrs_set (ps : List Pl) (i : Nat) (p p' : Pl) (hp : ps[i]? = some p) (ho : p'.o = p.o) : ptrs (ps.set i p') = ptrs ps := by
  unfold ptrs
  rw [List.map_set, ho]
  apply List.ext_getElem?
  intro j
  by_cases hj : j = i
  · subst hj
    have hl := (List.getElem?_eq_some_iff.1 hp).1
    rw [List.getElem?_set_self (by simpa using hl), List.getElem?_map, hp]
    rfl
  · rw [List.getElem?_set_ne (fun e => hj e.symm)]
theorem set_split {α : Type} : ∀ (l : List α) (i : Nat) (a a' : α), l[i]? = some a → ∃ A B, l = A ++ a :: B ∧ l.set i a' = A ++ a' :: B
  | [], i, a, a', h => by simp at h
  | b :: r, 0, a, a', h => by
    obtain rfl : b = a := by simpa using h
    exact ⟨[], r, rfl, rfl⟩
  | b :: r, i + 1, a, a', h => by
    obtain ⟨A, B, h1, h2⟩ := set_split r i a a' (by simpa using h)
    exact ⟨b :: A, B, by rw [h1]; rfl, by rw [List.set_cons_succ, h2]; rfl⟩
/-- one object's place among all, put in another one's stead -/
theorem nodup_turn {L A B K K' : List Nat} (h : (L ++ (A ++ (K ++ B))).Nodup) (hk : K'.Nodup) (hd : ∀ b ∈ K', b ∈ K ∨ b ∉ L ++ (A ++ (K ++ B))) : (L ++ (A ++ (K' ++ B))).Nodup := by
  simp only [List.nodup_append] at h ⊢
  obtain ⟨h1, ⟨h2, ⟨h3, h4, h5⟩, h6⟩, h7⟩ := h
  have out : ∀ b ∈ K', (∀ a ∈ L, a ≠ b) ∧ (∀ a ∈ A, a ≠ b) ∧ (∀ a ∈ B, b ≠ a) := by
    intro b hb
    rcases hd b hb with hb | hb
    · exact ⟨fun a ha => h7 a ha b (by simp [hb]), fun a ha => h6 a ha b (by simp [hb]), fun a ha => h5 b hb a ha⟩
    · simp only [List.mem_append, not_or] at hb
      exact ⟨fun a ha e => hb.1 (e ▸ ha), fun a ha e => hb.2.1 (e ▸ ha), fun a ha e => hb.2.2.2 (e ▸ ha)⟩
  refine ⟨h1, ⟨h2, ⟨hk, h4, fun b hb a ha => (out b hb).2.2 a ha⟩, ?_⟩, ?_⟩
  · intro a ha b hb
    rcases List.mem_append.1 hb with hb | hb
    · exact (out b hb).2.1 a ha
    · exact h6 a ha b (by simp [hb])
  · intro a ha b hb
    rcases List.mem_append.1 hb with hb | hb
    · exact h7 a ha b (by simp [hb])
    · rcases List.mem_append.1 hb with hb | hb
      · exact (out b hb).1 a ha
      · exact h7 a ha b (by simp [hb])
theorem HpAt.turn {w w' : World} {s : Hs} (h : HpAt w s) {i : Nat} {p p' : Pl} {x x' : Ob} (hp : s.ps[i]? = some p) (hx : s.xs[i]? = some x) (hc : Chg p.blocks w w')
    (hob : ObIn w' p' x') (ho : p'.o = p.o) (hpn : p'.blocks.Nodup) (hnew : ∀ b ∈ p'.blocks, b ∈ p.blocks ∨ w.heap.size ≤ b) : HpAt w' (s.turn i p' x') ∧ Step w s w' (s.turn i p' x') := by
  have hap := h.apart
  obtain ⟨A, B, hA, hB⟩ := set_split s.ps i p p' hp
  have e1 : s.blocks = (s.h :: s.ov.ownBlock.toList) ++ (A.flatMap Pl.blocks ++ (p.blocks ++ B.flatMap Pl.blocks)) := by
    unfold Hs.blocks; rw [hA]; simp
  have e2 : (s.turn i p' x').blocks = (s.h :: s.ov.ownBlock.toList) ++ (A.flatMap Pl.blocks ++ (p'.blocks ++ B.flatMap Pl.blocks)) := by
    unfold Hs.blocks Hs.turn; simp only; rw [hB]; simp
  have hmem := List.mem_of_getElem? hp
  have hsub : ∀ b ∈ p.blocks, b ∈ s.blocks := fun b hb => mem_blocks hmem hb
  have hl := (List.getElem?_eq_some_iff.1 hp).1
  have hout : ∀ b, w.heap.size ≤ b → b ∉ s.blocks := fun b hb hm => by have := h.lt b hm; omega
  rw [e1] at hap
  have hL : ∀ b ∈ s.h :: s.ov.ownBlock.toList, b ∉ p.blocks := fun b hb hb' => by
    rw [List.nodup_append] at hap
    exact hap.2.2 b hb b (by simp [hb']) rfl
  have hAB : ∀ b, b ∈ A.flatMap Pl.blocks ∨ b ∈ B.flatMap Pl.blocks → b ∉ p.blocks := fun b hb hb' => by
    rw [List.nodup_append, List.nodup_append, List.nodup_append] at hap
    rcases hb with hb | hb
    · exact hap.2.1.2.2 b hb b (by simp [hb']) rfl
    · exact hap.2.1.2.1.2.2 b hb' b hb rfl
  refine ⟨⟨?_, ?_, ?_, ?_, ?_⟩, ⟨?_, rfl, ?_⟩⟩
  · exact (hc.block _ (bk_lt h.own) (hL _ (by simp))).trans h.own
  · have := World.ownsRow_same h.row (fun g hg => hc.block g (h.row.lt g hg).2 (hL g (by simp [hg])))
    show World.ownsRow w' 0 _ 1 s.ov (s.ps.set i p').length (ptrs (s.ps.set i p'))
    rw [List.length_set, ptrs_set _ _ _ _ hp ho]
    exact this
  · simp [Hs.turn, h.len]
  · intro j q y hq hy
    simp only [Hs.turn] at hq hy
    by_cases hj : j = i
    · subst hj
      rw [List.getElem?_set_self hl] at hq
      rw [List.getElem?_set_self (by rw [h.len]; exact hl)] at hy
      cases hq
      cases hy
      exact hob
    · rw [List.getElem?_set_ne (fun e => hj e.symm)] at hq hy
      have hin := h.each j q y hq hy
      refine hin.same fun b hb => hc.block b (hin.lt b hb) (hAB b ?_)
      have hq' : (s.ps.set i p')[j]? = some q := by rw [List.getElem?_set_ne (fun e => hj e.symm)]; exact hq
      have hq2 := hq
      rw [hA] at hq2
      have hAl : A.length = i := by
        have e3 := congrArg List.length hA
        have e4 : (A ++ p' :: B)[A.length]? = some p' := by simp
        have e5 : (A ++ p :: B)[i]? = some p := by rw [← hA]; exact hp
        by_cases hlt : A.length < i
        · exfalso
          have e6 : (s.ps.set i p)[i]? = some p := by rw [List.getElem?_set_self hl]
          have e7 : s.ps[A.length]? = some p := by rw [hA]; simp
          have d := hap
          have e8 : B[i - A.length - 1]? = some p := by
            rw [List.getElem?_append_right (by omega)] at e5
            rw [show i - A.length = (i - A.length - 1) + 1 by omega] at e5
            simpa using e5
          exact hAB p.o (.inr (List.mem_flatMap.2 ⟨p, List.mem_of_getElem? e8, by simp [Pl.blocks]⟩)) (by simp [Pl.blocks])
        · by_cases hgt : i < A.length
          · exfalso
            rw [List.getElem?_append_left hgt] at e5
            exact hAB p.o (.inl (List.mem_flatMap.2 ⟨p, List.mem_of_getElem? e5, by simp [Pl.blocks]⟩)) (by simp [Pl.blocks])
          · omega
      by_cases hjl : j < A.length
      · rw [List.getElem?_append_left hjl] at hq2
        exact .inl (List.mem_flatMap.2 ⟨q, List.mem_of_getElem? hq2, hb⟩)
      · rw [List.getElem?_append_right (by omega)] at hq2
        rw [show j - A.length = (j - A.length - 1) + 1 by omega] at hq2
        exact .inr (List.mem_flatMap.2 ⟨q, List.mem_of_getElem? (by simpa using hq2), hb⟩)
  · rw [e2]
    refine nodup_turn hap hpn fun b hb => ?_
    rcases hnew b hb with hb | hb
    · exact .inl hb
    · exact .inr (by rw [← e1]; exact hout b hb)
  · exact ⟨hc.os, hc.tape, hc.output, hc.size, fun k hk hn => hc.block k hk (fun hm => hn (hsub k hm))⟩
  · intro b hb
    rw [e2] at hb
    rw [e1]
    simp only [List.mem_append] at hb ⊢
    rcases hb with hb | hb | hb | hb
    · exact .inl (.inl hb)
    · exact .inl (.inr (.inl hb))
    · rcases hnew b hb with hb | hb
      · exact .inl (.inr (.inr (.inl hb)))
      · exact .inr hb
    · exact .inl (.inr (.inr (.inr hb)))
theorem HpAt.less {w : World} {s : Hs} (h : HpAt w s) (c : Int) : HpAt (w.setCell ⟨s.h, 1, none⟩ (.int .i64 c)) (s.less c) ∧ Step w s (w.setCell ⟨s.h, 1, none⟩ (.int .i64 c)) (s.less c) := by
  have hap := h.apart
  unfold Hs.blocks at hap
  rw [List.nodup_cons] at hap
  have keep : ∀ b, b ≠ s.h → (w.setCell ⟨s.h, 1, none⟩ (.int .i64 c)).heap[b]? = w.heap[b]? := fun b hb => RowKit.Below.heap_setCell _ _ _ _ hb
  refine ⟨⟨bk_set h.own 1 _, ?_, h.len, fun j q y hq hy => ?_, h.apart⟩, ⟨⟨rfl, rfl, rfl, by simp [World.setCell], fun k hk hn => keep k (fun e => hn (by rw [e]; simp [Hs.blocks]))⟩, rfl, fun b hb => .inl hb⟩⟩
  · exact World.ownsRow_same h.row (fun g hg => keep g (fun e => hap.1 (List.mem_append_left _ (by rw [← e, show s.ov.ownBlock = some g from hg]; simp))))
  · exact (h.each j q y hq hy).same fun b hb => keep b (fun e => hap.1 (List.mem_append_right _ (List.mem_flatMap.2 ⟨q, List.mem_of_getElem? hq, e ▸ hb⟩)))
theorem HpAt.pl {w : World} {s : Hs} (h : HpAt w s) {i : Int} {x : Ob} (hx : s.d.obj i = some x) : ∃ p, s.ps[i.toNat]? = some p ∧ s.xs[i.toNat]? = some x ∧ s.at i = some ⟨p.o, 0, none⟩ ∧ ObIn w p x := by
  obtain ⟨-, h0, h1, h2⟩ := Hd.obj_mem hx
  have h3 : i.toNat < s.ps.length := by have := h.len; simp only [Hs.d] at h1; omega
  refine ⟨s.ps[i.toNat], List.getElem?_eq_getElem h3, h2, ?_, h.each _ _ _ (List.getElem?_eq_getElem h3) h2⟩
  unfold Hs.at
  rw [if_neg (by omega), List.getElem?_eq_getElem h3]
  rfl
theorem turn_at (s : Hs) (i : Nat) (p p' : Pl) (x' : Ob) (hp : s.ps[i]? = some p) (ho : p'.o = p.o) (j : Int) : (s.turn i p' x').at j = s.at j := by
  unfold Hs.at Hs.turn
  simp only [List.length_set]
  by_cases h : j < 0 ∨ (s.ps.length : Int) ≤ j
  · rw [if_pos h, if_pos h]
  · rw [if_neg h, if_neg h]
    by_cases hj : j.toNat = i
    · rw [hj, List.getElem?_set_self (List.getElem?_eq_some_iff.1 hp).1, hp]
      simp [ho]
    · rw [List.getElem?_set_ne (fun e => hj e.symm)]
theorem pl_nodup {w : World} {s : Hs} (h : HpAt w s) {i : Nat} {p : Pl} (hp : s.ps[i]? = some p) : p.blocks.Nodup := by
  have hap := h.apart
  unfold Hs.blocks at hap
  rw [List.nodup_cons, List.nodup_append] at hap
  obtain ⟨A, B, hA, -⟩ := set_split s.ps i p p hp
  have := hap.2.2.1
  rw [hA, List.flatMap_append, List.flatMap_cons, List.nodup_append, List.nodup_append] at this
  exact this.2.1.1
theorem pl_head {w : World} {s : Hs} (h : HpAt w s) {i : Nat} {p : Pl} (hp : s.ps[i]? = some p) : s.h ∉ p.blocks := by
  have hap := h.apart
  unfold Hs.blocks at hap
  rw [List.nodup_cons] at hap
  exact fun hm => hap.1 (List.mem_append_right _ (List.mem_flatMap.2 ⟨p, List.mem_of_getElem? hp, hm⟩))
end Go.Proofs.YtfophnmnehpenaaDoor
