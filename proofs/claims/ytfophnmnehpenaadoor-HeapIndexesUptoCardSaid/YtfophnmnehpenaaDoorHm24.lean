/- Layer 8: an item stored. -/
import Derived.Test.YtfophnmnehpenaaDoorHm22
namespace Go.Proofs.YtfophnmnehpenaaDoor
open Go Go.RowKit
set_option linter.all false
theorem flat_set (x : Va) : ∀ (vs : List Va) (m : Nat), m < vs.length → ((((vs.flatMap Va.cells).set (m * 4) (.int .i64 x.kind)).set (m * 4 + 1) (.float .f64 x.num)).set (m * 4 + 2) (.string ⟨x.text.toArray⟩)).set (m * 4 + 3) (.int .i64 x.ref) = (vs.set m x).flatMap Va.cells
  | [], m, h => by simp at h
  | y :: r, 0, h => by simp [Va.cells]
  | y :: r, m + 1, h => by
    have ih := flat_set x r m (by simpa using h)
    rw [List.set_cons_succ, List.flatMap_cons, List.flatMap_cons, ← ih]
    have hl : y.cells.length = 4 := rfl
    have sa : ∀ (L : List Value) (j : Nat) (u : Value), (y.cells ++ L).set (4 + j) u = y.cells ++ L.set j u := fun L j u => by
      rw [List.set_append_right _ _ (by rw [hl]; omega), hl, Nat.add_sub_cancel_left]
    rw [show (m + 1) * 4 = 4 + m * 4 by omega, show 4 + m * 4 + 1 = 4 + (m * 4 + 1) by omega, show 4 + m * 4 + 2 = 4 + (m * 4 + 2) by omega, show 4 + m * 4 + 3 = 4 + (m * 4 + 3) by omega, sa, sa, sa, sa]
theorem own_has {w : World} {B : Nat} {e : TypeId} {g n cap : Nat} {xs : List Value} (h : w.ownsRow B e 4 (.slice (some ⟨g, 0, none⟩) n cap) n xs) (j : Nat) (hj : j < n * 4) : w.frozen? ⟨g, j, none⟩ = false ∧ ∃ u, w.cell? ⟨g, j, none⟩ = some u := by
  refine ⟨h.frozenAt j, ?_⟩
  rw [h.cellAt j hj]
  exact ⟨_, List.getElem?_eq_getElem (by rw [h.1]; exact hj)⟩
def put4 (w : World) (g m : Nat) (x : Va) : World := (((w.setCell ⟨g, m * 4, none⟩ (.int .i64 x.kind)).setCell ⟨g, m * 4 + 1, none⟩ (.float .f64 x.num)).setCell ⟨g, m * 4 + 2, none⟩ (.string ⟨x.text.toArray⟩)).setCell ⟨g, m * 4 + 3, none⟩ (.int .i64 x.ref)
theorem row_some {w : World} {B : Nat} {e : TypeId} {v : Value} {n : Nat} {xs : List Value} (h : w.ownsRow B e 4 v n xs) (hn : 0 < n) : ∃ g cap, v = .slice (some ⟨g, 0, none⟩) n cap := by
  rcases h.2 with ⟨rfl, h0⟩ | ⟨g, cap, cur, rfl, _⟩
  · omega
  · exact ⟨g, cap, rfl⟩
theorem item_store {w : World} {s : Hs} (h : HpAt w s) {i : Nat} {p : Pl} {x : Ob} (hp : s.ps[i]? = some p) (hx : s.xs[i]? = some x) {g cap m : Nat} (hiv : p.iv = .slice (some ⟨g, 0, none⟩) x.items.length cap) (hm : m < x.items.length) (v : Va) :
    (w.frozen? ⟨g, m * 4, none⟩ = false ∧ ∃ u, w.cell? ⟨g, m * 4, none⟩ = some u) ∧
    ((w.setCell ⟨g, m * 4, none⟩ (.int .i64 v.kind)).frozen? ⟨g, m * 4 + 1, none⟩ = false ∧ ∃ u, (w.setCell ⟨g, m * 4, none⟩ (.int .i64 v.kind)).cell? ⟨g, m * 4 + 1, none⟩ = some u) ∧
    (((w.setCell ⟨g, m * 4, none⟩ (.int .i64 v.kind)).setCell ⟨g, m * 4 + 1, none⟩ (.float .f64 v.num)).frozen? ⟨g, m * 4 + 2, none⟩ = false ∧ ∃ u, ((w.setCell ⟨g, m * 4, none⟩ (.int .i64 v.kind)).setCell ⟨g, m * 4 + 1, none⟩ (.float .f64 v.num)).cell? ⟨g, m * 4 + 2, none⟩ = some u) ∧
    ((((w.setCell ⟨g, m * 4, none⟩ (.int .i64 v.kind)).setCell ⟨g, m * 4 + 1, none⟩ (.float .f64 v.num)).setCell ⟨g, m * 4 + 2, none⟩ (.string ⟨v.text.toArray⟩)).frozen? ⟨g, m * 4 + 3, none⟩ = false ∧ ∃ u, (((w.setCell ⟨g, m * 4, none⟩ (.int .i64 v.kind)).setCell ⟨g, m * 4 + 1, none⟩ (.float .f64 v.num)).setCell ⟨g, m * 4 + 2, none⟩ (.string ⟨v.text.toArray⟩)).cell? ⟨g, m * 4 + 3, none⟩ = some u) ∧
    HpAt (put4 w g m v) (s.turn i p (x.item m v)) ∧ Step w s (put4 w g m v) (s.turn i p (x.item m v)) := by
  have hob := h.each i p x hp hx
  have R0 := hob.items
  rw [hiv] at R0
  obtain ⟨R1, G1⟩ := R0.stored (m * 4) (.int .i64 v.kind)
  obtain ⟨R2, G2⟩ := R1.stored (m * 4 + 1) (.float .f64 v.num)
  obtain ⟨R3, G3⟩ := R2.stored (m * 4 + 2) (.string ⟨v.text.toArray⟩)
  obtain ⟨R4, G4⟩ := R3.stored (m * 4 + 3) (.int .i64 v.ref)
  refine ⟨own_has R0 _ (by omega), own_has R1 _ (by omega), own_has R2 _ (by omega), own_has R3 _ (by omega), ?_⟩
  have G := G1.trans (G2.trans (G3.trans G4))
  have hnd := pl_nodup h hp
  unfold Pl.blocks at hnd
  have hne : some p.o ≠ some g := fun e => by
    rw [show p.iv.ownBlock = some g by rw [hiv]; rfl] at hnd
    simp only [Option.some.injEq] at e
    simp [e] at hnd
  have hl : (x.items.set m v).length = x.items.length := List.length_set
  rw [flat_set v x.items m hm] at R4
  have := h.items hp hx (w2 := put4 w g m v) (v' := p.iv) (l := x.items.set m v)
    ((Chg.grown G).sub (fun b hb => by rw [hiv]; exact List.mem_cons_of_mem _ hb)) ((G.block _ (bk_lt hob.own) hne).trans hob.own) (by rw [hl, hiv]; exact R4) (fun b hb => .inl hb)
  exact this
end Go.Proofs.YtfophnmnehpenaaDoor
