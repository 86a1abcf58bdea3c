/- What the cards of this package take: the cell of MaxLen; an argument that is a list of fields. -/
import Derived.Test.YthfoidodcfdpnaaDoorFld17
import Derived.Test.YthfoidodcfdpnaaDoorLift2
import Derived.Test.YthfoidodcfdpnaaDoorBulk
import Derived.Clock
namespace Go.Proofs.YthfoidodcfdpnaaDoor
open Go Go.RowKit Go.ChangeShapes Go.WideShapes Go.ChangeAt Go.Deep
theorem mx_of {W : World} (h : W.ShapedOpen Tryd.prog) : MX W :=
  Go.Proofs.cell_of_shapedOpen_int (zero := #[.int .i64 0]) (t := 3) h (of_decide_eq_true (by kernel_rfl)) (by kernel_rfl) rfl (by kernel_rfl) (by kernel_rfl) Tryd.underlying3
def bytesOf : Value → Bytes
  | .string s => s.data.toList
  | _ => []
section
variable {H : Type} {enc : TypeId × Value → H} {W : World}
theorem cells_fld : Tryd.prog.cellsOf 34 = 2 := by kernel_rfl
theorem cells_str : Tryd.prog.cellsOf 9 = 1 := by kernel_rfl
theorem open_fld {v : Value} {d : DataW H} {p : List MemPlace} {base : Nat} (hv : Value.okWide Tryd.prog W .any base 23 v)
    (h : DataW.Trod enc Tryd.prog W 0 (fun _ => true) true 23 v d p) :
    ∃ fs, FRead W v fs ∧ fs.length ≤ Rows.uptoBulk d ∧ ∀ f ∈ fs, f.1.length + f.2.length ≤ Rows.uptoBulk d := by
  obtain ⟨n, h⟩ := h
  obtain ⟨a, len, cap, rfl⟩ := okWide_slice Tryd.underlying23 hv
  have hc : (Value.slice a len cap).cells.toList = [Value.slice a len cap] := rfl
  rw [hc] at h
  rcases open_slice_pairs Tryd.underlying23 Tryd.underlying34 cells_fld rfl rfl cells_str cells_str h with ⟨hcs, hx⟩ | ⟨a, len', cap', m, k, V0, V1, D0, D1, P0, P1, hcs, _, hl, _, hmm, hx, hall⟩
  · simp only [List.cons.injEq, and_true] at hcs
    rw [hcs]
    exact ⟨[], FRead.nil W, Nat.zero_le _, fun f hf => by cases hf⟩
  · simp only [List.cons.injEq, and_true] at hcs
    rw [hcs]
    simp only [Prod.mk.injEq] at hx
    obtain ⟨rfl, -⟩ := hx
    have hml : m = cap' := by rw [hmm, if_pos rfl]
    have each : ∀ i, i < len' → ∃ s0 s1 : ByteArray, W.cell? (a.add (i * 2)) = some (.string s0) ∧ W.cell? (a.add (i * 2 + 1)) = some (.string s1) ∧ V0 i = .string s0 ∧ V1 i = .string s1 ∧ D0 i = .lit (.string s0.data.toList) ∧ D1 i = .lit (.string s1.data.toList) := by
      intro i hi
      obtain ⟨c0, c1, t0, t1⟩ := hall i (by omega)
      obtain ⟨s0, e0, x0, _⟩ := DataW.trod_string Tryd.underlying9 t0
      obtain ⟨s1, e1, x1, _⟩ := DataW.trod_string Tryd.underlying9 t1
      simp only [List.cons.injEq, and_true] at e0 e1
      simp only [Prod.mk.injEq] at x0 x1
      exact ⟨s0, s1, by rw [c0, e0], by rw [c1, e1], e0, e1, x0.1, x1.1⟩
    refine ⟨(List.range len').map fun i => (bytesOf (V0 i), bytesOf (V1 i)), ⟨some a, cap', by rw [List.length_map, List.length_range], fun j f hj => ?_⟩, ?_, fun f hf => ?_⟩
    · have hjl : j < len' := by
        have := (List.getElem?_eq_some_iff.1 hj).1
        simpa using this
      have hf : f = (bytesOf (V0 j), bytesOf (V1 j)) := by
        rw [List.getElem?_map, List.getElem?_range hjl] at hj
        exact (Option.some.inj hj).symm
      subst hf
      obtain ⟨s0, s1, c0, c1, v0, v1, _, _⟩ := each j hjl
      have hsp : a = ⟨a.block, a.off, none⟩ := by
        obtain ⟨s0', _, c0', _⟩ := each 0 (by omega)
        have := World.cell?_spot c0'
        rw [show a.add (0 * 2) = a from rfl] at this
        cases a
        simp at this
        subst this
        rfl
      rw [hsp, add_at] at c0 c1
      refine ⟨a.block, a.off, by rw [← hsp], ?_, ?_, ?_⟩
      · exact World.block_lt_of_cell? W (⟨a.block, a.off + j * 2, none⟩ : Addr) c0
      · rw [show a.off + 2 * j = a.off + j * 2 by omega, c0, v0]
        rfl
      · rw [show a.off + 2 * j + 1 = a.off + (j * 2 + 1) by omega, c1, v1]
        rfl
    · have := bulk_len ((List.range len').map fun i => (DataW.agg [D0 i, D1 i] : DataW H))
      rw [List.length_map, List.length_range] at this ⊢
      rw [Rows.uptoBulk]
      omega
    · obtain ⟨i, hi, rfl⟩ := List.mem_map.1 hf
      rw [List.mem_range] at hi
      obtain ⟨s0, s1, _, _, v0, v1, d0, d1⟩ := each i hi
      have := bulk_mem (List.mem_map_of_mem (f := fun i => (DataW.agg [D0 i, D1 i] : DataW H)) (List.mem_range.2 hi))
      rw [d0, d1] at this
      simp only [Rows.uptoBulk, Rows.uptoBulkAll] at this ⊢
      rw [v0, v1]
      show s0.data.toList.length + s1.data.toList.length ≤ _
      omega
end
end Go.Proofs.YthfoidodcfdpnaaDoor
