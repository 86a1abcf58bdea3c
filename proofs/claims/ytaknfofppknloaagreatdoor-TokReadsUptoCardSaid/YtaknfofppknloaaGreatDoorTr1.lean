/- Layer 2, the document's answer: where its scan lies; a character, a fault, a text that stands here, a part. -/
import Derived.Test.YtaknfofppknloaaGreatDoorTk4
namespace Go.Proofs.YtaknfofppknloaaGreatDoor
open Go Go.RowKit
set_option linter.all false
namespace Tk
/-- where a scan lies: its block, its three rows -/
structure Ro where
  p : Nat
  tv : Value
  cv : Value
  av : Value
def Ro.row (r : Ro) : List Nat := r.tv.ownBlock.toList ++ (r.cv.ownBlock.toList ++ r.av.ownBlock.toList)
def encs (cs : Cs) : List Value := cs.map fun c => Value.string ⟨(enc c).toArray⟩
def spotCells (n : Nat) (cs : Cs) : List Value := (List.range n).flatMap fun k => [.int .i64 ((place cs k).1 : Int), .int .i64 ((place cs k).2 : Int)]
structure Sc (w : World) (r : Ro) (cs : Cs) (i e : Nat) (wh : Nat × Nat) : Prop where
  own : w.heap[r.p]? = some (.cells #[r.tv, r.cv, r.av, .int .i64 (i : Int), .int .i64 (e : Int), .int .i64 (wh.1 : Int), .int .i64 (wh.2 : Int)] 53 (0, 0))
  text : w.ownsRow 0 9 1 r.tv cs.length (encs cs)
  chars : w.ownsRow 0 3 1 r.cv cs.length (ints cs)
  spots : w.ownsRow 0 29 2 r.av (cs.length + 1) (spotCells (cs.length + 1) cs)
  apart : r.p ∉ r.row
  clen : cs.length ≤ 65536
  okcs : ∀ c ∈ cs, allowed c = true
variable {w : World} {r : Ro} {cs : Cs} {i e : Nat} {wh : Nat × Nat}
theorem Sc.c0 (h : Sc w r cs i e wh) : w.cell? ⟨r.p, 0, none⟩ = some r.tv := bk_cell h.own 0 _ rfl
theorem Sc.c1 (h : Sc w r cs i e wh) : w.cell? ⟨r.p, 1, none⟩ = some r.cv := bk_cell h.own 1 _ rfl
theorem Sc.c2 (h : Sc w r cs i e wh) : w.cell? ⟨r.p, 2, none⟩ = some r.av := bk_cell h.own 2 _ rfl
theorem Sc.c3 (h : Sc w r cs i e wh) : w.cell? ⟨r.p, 3, none⟩ = some (.int .i64 (i : Int)) := bk_cell h.own 3 _ rfl
theorem Sc.c4 (h : Sc w r cs i e wh) : w.cell? ⟨r.p, 4, none⟩ = some (.int .i64 (e : Int)) := bk_cell h.own 4 _ rfl
theorem Sc.c5 (h : Sc w r cs i e wh) : w.cell? ⟨r.p, 5, none⟩ = some (.int .i64 (wh.1 : Int)) := bk_cell h.own 5 _ rfl
theorem Sc.c6 (h : Sc w r cs i e wh) : w.cell? ⟨r.p, 6, none⟩ = some (.int .i64 (wh.2 : Int)) := bk_cell h.own 6 _ rfl
theorem Sc.f (h : Sc w r cs i e wh) (k : Nat) : w.frozen? ⟨r.p, k, none⟩ = false := bk_free h.own k
theorem Sc.lt (h : Sc w r cs i e wh) : r.p < w.heap.size := bk_lt h.own
/-- the block has turned, the rows stay -/
theorem Sc.turn {w' : World} {i' e' : Nat} {wh' : Nat × Nat} (h : Sc w r cs i e wh) (hc : Chg [r.p] w w')
    (ho : w'.heap[r.p]? = some (.cells #[r.tv, r.cv, r.av, .int .i64 (i' : Int), .int .i64 (e' : Int), .int .i64 (wh'.1 : Int), .int .i64 (wh'.2 : Int)] 53 (0, 0))) : Sc w' r cs i' e' wh' := by
  have ha := h.apart
  unfold Ro.row at ha
  simp only [List.mem_append, mem_own, not_or] at ha
  exact ⟨ho, row_chg h.text hc (fun g hg => by simp only [List.mem_singleton]; rintro rfl; exact ha.1 hg), row_chg h.chars hc (fun g hg => by simp only [List.mem_singleton]; rintro rfl; exact ha.2.1 hg), row_chg h.spots hc (fun g hg => by simp only [List.mem_singleton]; rintro rfl; exact ha.2.2 hg), h.apart, h.clen, h.okcs⟩
theorem Sc.pur {w' : World} (h : Sc w r cs i e wh) (hp : Pur w w') : Sc w' r cs i e wh := h.turn (.of_pur hp) (bk_pur h.own hp)
theorem Sc.seti (h : Sc w r cs i e wh) (j : Nat) (x : Int) (hx : x = (j : Int)) : Sc (w.setCell ⟨r.p, 3, none⟩ (.int .i64 x)) r cs j e wh := by
  subst hx
  exact h.turn ((Chg.refl _ w).setCell (.inl (by simp)) _) (bk_set h.own 3 _)
theorem Chg.seti (r : Ro) (w : World) (k : Nat) (v : Value) : Chg [r.p] w (w.setCell ⟨r.p, k, none⟩ v) := (Chg.refl _ w).setCell (.inl (by simp)) _
/-- the rows, as they are read -/
theorem Sc.cshape (h : Sc w r cs i e wh) : ∃ a c, r.cv = .slice a cs.length c ∧ cs.length ≤ 9223372036854775807 ∧ (cs.length : Int) ≤ c ∧ ∀ k, k < cs.length → ∃ g, a = some ⟨g, 0, none⟩ ∧ w.cell? ⟨g, k, none⟩ = some (.int .i64 ((cs.getD k 0 : Nat) : Int)) := by
  rcases h.chars.2 with ⟨e, h0⟩ | ⟨g, cap, cur, e, hb, hg, hnc, hcm, hcs, hx⟩
  · exact ⟨none, 0, by rw [e, h0], by omega, by omega, fun k hk => by omega⟩
  · refine ⟨some ⟨g, 0, none⟩, cap, e, by unfold maxLen at hcm; omega, by omega, fun k hk => ⟨g, rfl, ?_⟩⟩
    obtain ⟨g', c', e', _, _, _, hc⟩ := row_at h.chars (by omega)
    rw [e] at e'
    cases e'
    exact (hc k _ (by simp [ints, List.getElem?_eq_getElem hk])).1
theorem Sc.tshape (h : Sc w r cs i e wh) : ∃ a c, r.tv = .slice a cs.length c ∧ (cs.length : Int) ≤ c ∧ ∀ k, k < cs.length → ∃ g, a = some ⟨g, 0, none⟩ ∧ w.cell? ⟨g, k, none⟩ = some (.string ⟨(enc (cs.getD k 0)).toArray⟩) := by
  rcases h.text.2 with ⟨e, h0⟩ | ⟨g, cap, cur, e, hb, hg, hnc, hcm, hcs, hx⟩
  · exact ⟨none, 0, by rw [e, h0], by omega, fun k hk => by omega⟩
  · refine ⟨some ⟨g, 0, none⟩, cap, e, by omega, fun k hk => ⟨g, rfl, ?_⟩⟩
    obtain ⟨g', c', e', _, _, _, hc⟩ := row_at h.text (by omega)
    rw [e] at e'
    cases e'
    exact (hc k _ (by simp [encs, List.getD_eq_getElem?_getD, List.getElem?_eq_getElem hk])).1
theorem spotCells_at (cs : Cs) : ∀ (n k j : Nat), k < n → j < 2 → (spotCells n cs)[2 * k + j]? = [Value.int .i64 ((place cs k).1 : Int), .int .i64 ((place cs k).2 : Int)][j]?
  | 0, k, j, h, _ => by omega
  | n + 1, k, j, h, hj => by
    have hl : ∀ n, (spotCells n cs).length = 2 * n := fun n => by
      induction n with
      | zero => rfl
      | succ n ih => unfold spotCells at ih ⊢; rw [List.range_succ, List.flatMap_append, List.length_append, ih]; simp; omega
    have e : spotCells (n + 1) cs = spotCells n cs ++ [.int .i64 ((place cs n).1 : Int), .int .i64 ((place cs n).2 : Int)] := by
      unfold spotCells; rw [List.range_succ, List.flatMap_append]; simp
    rw [e]
    by_cases hk : k < n
    · rw [List.getElem?_append_left (by rw [hl]; omega)]
      exact spotCells_at cs n k j hk hj
    · obtain rfl : k = n := by omega
      rw [List.getElem?_append_right (by rw [hl]; omega), hl, show 2 * k + j - 2 * k = j by omega]
theorem Sc.ashape (h : Sc w r cs i e wh) : ∃ g c, r.av = .slice (some ⟨g, 0, none⟩) (cs.length + 1) c ∧ ((cs.length : Int) + 1 ≤ c) ∧ g < w.heap.size ∧ ∀ k, k ≤ cs.length → w.cell? ⟨g, k * 2, none⟩ = some (.int .i64 ((place cs k).1 : Int)) ∧ w.cell? ⟨g, k * 2 + 1, none⟩ = some (.int .i64 ((place cs k).2 : Int)) := by
  obtain ⟨g, c, e', _, hg, hc, hx⟩ := row_at h.spots (by omega)
  refine ⟨g, c, e', by omega, hg, fun k hk => ⟨?_, ?_⟩⟩
  · rw [Nat.mul_comm]
    exact (hx (2 * k) _ (by have := spotCells_at cs (cs.length + 1) k 0 (by omega) (by omega); simpa using this)).1
  · rw [Nat.mul_comm]
    exact (hx (2 * k + 1) _ (by have := spotCells_at cs (cs.length + 1) k 1 (by omega) (by omega); simpa using this)).1
set_option maxRecDepth 100000 in
theorem c_any (h : Sc w r cs i e wh) (k : Nat) (hk0 : k ≤ 1000000) : Calls Tryz.prog 37 #[.pointer (some ⟨r.p, 0, none⟩), .int .i64 (k : Int)] w fun e w' => e = .returned (.int .i64 (pk (cs.drop k))) ∧ w = w' := by
  have c1 := h.c1
  obtain ⟨a, c, hcv, hl, hc, hcell⟩ := h.cshape
  rw [hcv] at c1
  clear hcv
  by_cases hi : k < cs.length
  · obtain ⟨g, rfl, hk⟩ := hcell k hi
    have e1 : pk (cs.drop k) = ((cs.getD k 0 : Nat) : Int) := by rw [drop_cons _ _ hi]; rfl
    rw [e1]
    generalize ((cs.getD k 0 : Nat) : Int) = x at *
    have hi' : (k : Int) < cs.length := by omega
    clear hcell h e1
    go_enter Tryz.func37, Tryz.ntmps37
    go_wp2
    go_ret
    exact ⟨rfl, rfl⟩
  · have e1 : pk (cs.drop k) = -1 := by rw [List.drop_of_length_le (by omega)]; rfl
    rw [e1]
    have hi' : ¬ (k : Int) < cs.length := by omega
    clear hcell h e1
    go_enter Tryz.func37, Tryz.ntmps37
    go_wp2
    go_ret
    exact ⟨rfl, rfl⟩
set_option maxRecDepth 100000 in
theorem bad_err (h : Sc w r cs i e wh) (he : e ≠ 0) (k n : Int) : Calls Tryz.prog 16 #[.pointer (some ⟨r.p, 0, none⟩), .int .i64 k, .int .i64 n] w fun e' w' => e' = .returned (.tuple #[]) ∧ w = w' := by
  have c4 := h.c4
  have d : ((e : Int) == 0) = false := by rw [beq_eq_false_iff_ne]; omega
  clear h
  go_enter Tryz.func16, Tryz.ntmps16
  go_wp2
  refine bodyPost_end (results_none rfl _ _ _) rfl ?_
  exact ⟨rfl, rfl⟩
set_option maxRecDepth 100000 in
set_option maxHeartbeats 4000000 in
theorem bad_ok (h : Sc w r cs i 0 wh) (k n : Nat) (hk : k ≤ 1000000) : Calls Tryz.prog 16 #[.pointer (some ⟨r.p, 0, none⟩), .int .i64 (k : Int), .int .i64 (n : Int)] w fun e' w' => e' = .returned (.tuple #[]) ∧ Sc w' r cs i n (place cs k) ∧ Chg [r.p] w w' := by
  have c4 := h.c4
  have f4 := h.f 4
  obtain ⟨W1, hW1⟩ : ∃ W1, W1 = w.setCell ⟨r.p, 4, none⟩ (.int .i64 (n : Int)) := ⟨_, rfl⟩
  have hS : Sc W1 r cs i n wh := by rw [hW1]; exact h.turn (Chg.seti r w 4 _) (bk_set h.own 4 _)
  have hC : Chg [r.p] w W1 := by rw [hW1]; exact Chg.seti r w 4 _
  have c1 := hS.c1
  have c2 := hS.c2
  have c5 := hS.c5
  have c6 := hS.c6
  have f5 := hS.f 5
  have f6 := hS.f 6
  obtain ⟨a, c, hcv, hl, hc, -⟩ := hS.cshape
  obtain ⟨g, cap, hav, hcap, hg, hcell⟩ := hS.ashape
  rw [hcv] at c1
  rw [hav] at c2
  have hpl : place cs k = place cs (min k cs.length) := by
    unfold place
    rcases Nat.lt_or_ge k cs.length with hh | hh
    · rw [Nat.min_eq_left (by omega)]
    · rw [Nat.min_eq_right hh, List.take_of_length_le hh, List.take_length]
  rw [hpl]
  obtain ⟨m, hm⟩ : ∃ m, m = min k cs.length := ⟨_, rfl⟩
  have hm2 : min (k : Int) (cs.length : Int) = (m : Int) := by omega
  rw [← hm]
  have hmle : m ≤ cs.length := by omega
  obtain ⟨k0, k1⟩ := hcell m hmle
  have hm3 : (m : Int) < (cs.length : Int) + 1 := by omega
  generalize place cs m = q at *
  clear hcell hpl hm
  have hfin : Sc ((W1.setCell ⟨r.p, 5, none⟩ (.int .i64 (q.1 : Int))).setCell ⟨r.p, 6, none⟩ (.int .i64 (q.2 : Int))) r cs i n q := by
    have t1 : Sc (W1.setCell ⟨r.p, 5, none⟩ (.int .i64 (q.1 : Int))) r cs i n (q.1, wh.2) := hS.turn (Chg.seti r W1 5 _) (bk_set hS.own 5 _)
    exact t1.turn (Chg.seti r _ 6 _) (bk_set t1.own 6 _)
  have hchg := (hC.trans (Chg.seti r W1 5 (.int .i64 (q.1 : Int)))).trans (Chg.seti r _ 6 (.int .i64 (q.2 : Int)))
  clear h hS hC
  go_enter Tryz.func16, Tryz.ntmps16
  go_wp2
  rw [← hW1]
  clear hW1
  go_region
  all_goals
    go_wp2
    refine bodyPost_end (results_none rfl _ _ _) rfl ?_
    exact ⟨rfl, hfin.pur (Pur.refl _).drew, hchg.drew⟩
end Tk
end Go.Proofs.YtaknfofppknloaaGreatDoor
