/- Rows of fields; the layer's Parse. -/
import Derived.Test.YthfoidodcfdpnaaDoorFld3
import Derived.Test.YthfoidodcfdpnaaDoorFldPure2
namespace Go.Proofs.YthfoidodcfdpnaaDoor
open Go Go.RowKit
/-- fields as cells -/
def fcells (fs : List Fld) : List Value := fs.flatMap fun f => [.string ⟨f.1.toArray⟩, .string ⟨f.2.toArray⟩]
theorem fcells_snoc (fs : List Fld) (f : Fld) : fcells fs ++ [.string ⟨f.1.toArray⟩, .string ⟨f.2.toArray⟩] = fcells (fs ++ [f]) := by simp [fcells]
theorem fcells_at : ∀ (fs : List Fld) (j : Nat) (f : Fld), fs[j]? = some f → (fcells fs)[2 * j]? = some (.string ⟨f.1.toArray⟩) ∧ (fcells fs)[2 * j + 1]? = some (.string ⟨f.2.toArray⟩)
  | [], j, f, h => by simp at h
  | g :: fs, 0, f, h => by
    obtain rfl : g = f := by simpa using h
    exact ⟨rfl, rfl⟩
  | g :: fs, j + 1, f, h => by
    have := fcells_at fs j f (by simpa using h)
    simp only [fcells, List.flatMap_cons] at this ⊢
    rw [show 2 * (j + 1) = 2 * j + 1 + 1 by omega]
    exact this
/-- v is a slice of fields that reads as fs. -/
def FRead (w : World) (v : Value) (fs : List Fld) : Prop :=
  ∃ a c, v = .slice a fs.length c ∧ ∀ (j : Nat) f, fs[j]? = some f → ∃ b o, a = some ⟨b, o, none⟩ ∧ b < w.heap.size ∧ w.cell? ⟨b, o + 2 * j, none⟩ = some (.string ⟨f.1.toArray⟩) ∧ w.cell? ⟨b, o + 2 * j + 1, none⟩ = some (.string ⟨f.2.toArray⟩)
theorem FRead.pur {w w' : World} {v : Value} {fs : List Fld} (h : FRead w v fs) (hp : Pur w w') : FRead w' v fs := by
  obtain ⟨a, c, h1, h2⟩ := h
  refine ⟨a, c, h1, fun j f hj => ?_⟩
  obtain ⟨b, o, e, hb, c1, c2⟩ := h2 j f hj
  exact ⟨b, o, e, Nat.lt_of_lt_of_le hb hp.size, (hp.cell hb).trans c1, (hp.cell hb).trans c2⟩
theorem FRead.nil (w : World) : FRead w (.slice none 0 0) [] := ⟨none, 0, rfl, fun j f h => by simp at h⟩
theorem add_zero' (g j : Nat) : (Addr.mk g 0 none).add j = ⟨g, j, none⟩ := by
  unfold Addr.add; split <;> simp_all
theorem FRead.of_own {w : World} {B : Nat} {e : TypeId} {v : Value} {fs : List Fld} (h : w.ownsRow B e 2 v fs.length (fcells fs)) : FRead w v fs := by
  obtain ⟨h1, h2⟩ := id h
  rcases h2 with ⟨rfl, h0⟩ | ⟨g, cap, cur, rfl, hb, hg, _⟩
  · obtain rfl : fs = [] := List.length_eq_zero_iff.1 h0
    exact FRead.nil w
  · refine ⟨_, _, rfl, fun j f hj => ⟨g, 0, rfl, (Array.getElem?_eq_some_iff.1 hg).1, ?_, ?_⟩⟩
    · have := h.cells (g := g) rfl (2 * j) _ (fcells_at fs j f hj).1
      rw [add_zero'] at this
      rw [Nat.zero_add]
      exact this
    · have := h.cells (g := g) rfl (2 * j + 1) _ (fcells_at fs j f hj).2
      rw [add_zero'] at this
      rw [Nat.zero_add]
      exact this
/-- the cell of internal/bytealg.MaxLen holds some number -/
def MX (w : World) : Prop := ∃ m, w.cell? ⟨0, 0, none⟩ = some (.int .i64 m)
theorem MX.pur {w w' : World} (h : MX w) (hp : Pur w w') : MX w' := by
  obtain ⟨m, hm⟩ := h
  exact ⟨m, (hp.cell (World.block_lt_of_cell? w _ hm)).trans hm⟩
theorem fld_info : (Tryd.prog.info? 34).map (fun i => (i.zero.map (·.cells.size), i.size, i.bytes)) = some (some 2, 2, 32) := by kernel_rfl
theorem pieces_le : ∀ (l p : Bytes), p ∈ pieces l → p.length ≤ l.length
  | [], p, h => by simp [pieces] at h; simp [h]
  | b :: r, p, h => by
    rw [pieces] at h
    split at h
    · rcases List.mem_cons.1 h with rfl | h
      · simp
      · have := pieces_le r p h; simp; omega
    · rcases List.mem_cons.1 h with rfl | h
      · have : (pieces r).headD [] ∈ pieces r := by
          cases e : pieces r with
          | nil => exact absurd e (pieces_ne r)
          | cons x y => simp
        have := pieces_le r _ this
        rw [List.length_cons, List.length_cons]; omega
      · have := pieces_le r p (List.mem_of_mem_tail h); simp; omega
theorem pieces_len : ∀ (l : Bytes), (pieces l).length ≤ l.length + 1
  | [] => by simp [pieces]
  | b :: r => by
    have := pieces_len r
    rw [pieces]
    split <;> simp <;> omega
theorem nameOf_le (p : Bytes) : (nameOf p).length ≤ p.length := (List.takeWhile_sublist _).length_le
theorem valueOf_le (p : Bytes) : (valueOf p).length ≤ p.length := by
  unfold valueOf
  rw [List.length_drop]
  have := (List.dropWhile_sublist (l := p) (· != 61)).length_le
  omega
end Go.Proofs.YthfoidodcfdpnaaDoor
