/- Layer 8: (*Heap).add. -/
import Derived.Test.YtfophnmnehpenaaDoorHm2
import Derived.Maps.AppendAt
namespace Go.Proofs.YtfophnmnehpenaaDoor
open Go Go.RowKit
set_option linter.all false
theorem nodup_push {h : Nat} {L L' M K : List Nat} (hn : (h :: (L ++ M)).Nodup) (hk : K.Nodup) (hd : ∀ b ∈ K, b ∉ h :: (L ++ M)) (hl : L' = L ∨ ∃ c, L' = [c] ∧ c ∉ h :: (L ++ M) ∧ c ∉ K) : (h :: (L' ++ (M ++ K))).Nodup := by
  rw [List.nodup_cons, List.nodup_append] at hn
  obtain ⟨n1, n2, n3, n4⟩ := hn
  have d1 : ∀ b ∈ K, b ≠ h ∧ b ∉ L ∧ b ∉ M := fun b hb => by
    have := hd b hb
    simp only [List.mem_cons, List.mem_append, not_or] at this
    exact ⟨this.1, this.2.1, this.2.2⟩
  simp only [List.mem_append, not_or] at n1
  rcases hl with rfl | ⟨c, rfl, hc, hcK⟩
  · rw [List.nodup_cons, List.nodup_append, List.nodup_append]
    refine ⟨?_, n2, ⟨n3, hk, fun a ha b hb e => (d1 b hb).2.2 (e ▸ ha)⟩, fun a ha b hb e => ?_⟩
    · simp only [List.mem_append, not_or]
      exact ⟨n1.1, n1.2, fun hm => (d1 _ hm).1 rfl⟩
    · rcases List.mem_append.1 hb with hb | hb
      · exact n4 a ha b hb e
      · exact (d1 b hb).2.1 (e ▸ ha)
  · simp only [List.mem_cons, List.mem_append, not_or] at hc
    rw [List.nodup_cons, List.nodup_append, List.nodup_append]
    refine ⟨?_, by simp, ⟨n3, hk, fun a ha b hb e => (d1 b hb).2.2 (e ▸ ha)⟩, fun a ha b hb e => ?_⟩
    · simp only [List.mem_append, List.mem_singleton, not_or]
      exact ⟨fun e => hc.1 e.symm, n1.2, fun hm => (d1 _ hm).1 rfl⟩
    · obtain rfl : a = c := by simpa using ha
      subst e
      rcases List.mem_append.1 hb with hb | hb
      · exact hc.2.2 hb
      · exact hcK hb
def Hs.push (s : Hs) (v' : Value) (cells : Int) (p : Pl) (x : Ob) : Hs := ⟨s.h, v', s.ps ++ [p], s.left - cells, s.xs ++ [x]⟩
/-- what is behind add -/
theorem HpAt.push {w w' : World} {s : Hs} (h : HpAt w s) {v' : Value} {cells : Int} {p : Pl} {x : Ob}
    (hkeep : ∀ b, b < w.heap.size → b ≠ s.h → s.ov.ownBlock ≠ some b → b ≠ p.o → w'.heap[b]? = w.heap[b]?)
    (hown : w'.heap[s.h]? = some (.cells #[v', .int .i64 (s.left - cells)] 72 (0, 0)))
    (hrow : w'.ownsRow 0 74 1 v' (s.ps.length + 1) (ptrs s.ps ++ [.pointer (some ⟨p.o, 0, none⟩)]))
    (hv : v'.ownBlock = s.ov.ownBlock ∨ ∃ c, v'.ownBlock = some c ∧ w.heap.size ≤ c ∧ c ∉ p.blocks)
    (hob : ObIn w' p x) (hpn : p.blocks.Nodup) (hpd : ∀ b ∈ p.blocks, b ∉ s.blocks) : HpAt w' (s.push v' cells p x) := by
  have hap := h.apart
  unfold Hs.blocks at hap
  refine ⟨hown, ?_, ?_, ?_, ?_⟩
  · have e1 : (s.push v' cells p x).ps.length = s.ps.length + 1 := by simp [Hs.push]
    have e2 : ptrs (s.push v' cells p x).ps = ptrs s.ps ++ [.pointer (some ⟨p.o, 0, none⟩)] := by simp [Hs.push, ptrs]
    rw [e1, e2]
    exact hrow
  · simp [Hs.push, h.len]
  · intro i q y hq hy
    simp only [Hs.push] at hq hy
    by_cases hi : i < s.ps.length
    · rw [List.getElem?_append_left hi] at hq
      rw [List.getElem?_append_left (by rw [h.len]; exact hi)] at hy
      have hin := h.each i q y hq hy
      refine hin.same fun b hb => ?_
      have hbs := mem_blocks (List.mem_of_getElem? hq) hb
      have hbm : b ∈ s.ps.flatMap Pl.blocks := List.mem_flatMap.2 ⟨q, List.mem_of_getElem? hq, hb⟩
      rw [List.nodup_cons, List.nodup_append] at hap
      refine hkeep b (hin.lt b hb) (fun e => hap.1 (by rw [← e]; exact List.mem_append_right _ hbm)) (fun e => ?_) (fun e => hpd p.o (by simp [Pl.blocks]) (e ▸ hbs))
      exact hap.2.2.2 b (by rw [e]; simp) b hbm rfl
    · have hi' : i = s.ps.length := by
        have := (List.getElem?_eq_some_iff.1 hq).1
        simp at this
        omega
      subst hi'
      rw [List.getElem?_append_right (Nat.le_refl _)] at hq
      rw [List.getElem?_append_right (by rw [h.len]; exact Nat.le_refl _), h.len] at hy
      simp at hq hy
      subst hq hy
      exact hob
  · unfold Hs.blocks
    simp only [Hs.push, List.flatMap_append, List.flatMap_cons, List.flatMap_nil, List.append_nil]
    refine nodup_push hap hpn hpd ?_
    rcases hv with e | ⟨c, e, hc, hcp⟩
    · exact .inl (by rw [e])
    · refine .inr ⟨c, by rw [e]; rfl, fun hm => ?_, hcp⟩
      have := h.lt c hm
      omega
end Go.Proofs.YtfophnmnehpenaaDoor
