/- What the cards of this package take: the world's facts out of the row's list; an argument that is an address. -/
import Derived.Test.YtjbfkalkcopapaaDoorRt16
import Derived.Test.YtjbfkalkcopapaaDoorLift2
import Derived.Test.YtjbfkalkcopapaaDoorBulk
import Derived.Clock
import Derived.Lib.LaidU8
import Derived.Stop.LaidErr
import Derived.Deep.DeepWitnessRowRef
namespace Go.Proofs.YtjbfkalkcopapaaDoor
open Go Go.RowKit Go.ChangeShapes Go.WideShapes Go.ChangeAt
set_option linter.all false
theorem firstEq : (Rows.laid_unicode_utf8_first : DataW Unit) = Lib.firstData := by kernel_rfl
theorem acceptEq : (Rows.laid_unicode_utf8_acceptRanges : DataW Unit) = Lib.acceptData := by kernel_rfl
theorem powEq : (Rows.laid_internal_strconv_uint64pow10 : DataW Unit) = Lib.tabData .u64 Lib.pow10Tab := by kernel_rfl
theorem errRow (u : TypeId) (h : Tryd.prog.typeName? 3 u = some "*errors.errorString") : u = 108 :=
  typeName_ptr_named (nm := "errors.errorString") (by rw [show "*" ++ "errors.errorString" = "*errors.errorString" by decide]; kernel_rfl) (by kernel_rfl) (by decide) u (by rw [show "*" ++ "errors.errorString" = "*errors.errorString" by decide]; exact h)
theorem rw_of {W : World} (hS : W.ShapedOpen Tryd.prog) (h : laidMetH Tryd.prog Rows.routeFindsUptoRow.laid W) : RW W := by
  rw [MakeChecks.laidMetH_plain _ _ _ (by kernel_rfl)] at h
  unfold Rows.routeFindsUptoRow at h
  rw [firstEq, acceptEq, powEq] at h
  have h1 := h.tail.tail
  have h2 := h1.tail.tail
  have h3 := h2.tail
  refine ⟨?_, ?_, ?_, ?_, ?_⟩
  · exact Go.Proofs.cell_of_shapedOpen_int (zero := #[.int .i64 0]) (t := 3) hS (of_decide_eq_true (by kernel_rfl)) (by kernel_rfl) rfl (by kernel_rfl) (by kernel_rfl) Tryd.underlying3
  · exact utf8Tabs_of_reads Tryd.lays260 ⟨by kernel_rfl, by kernel_rfl, by kernel_rfl, by kernel_rfl, by kernel_rfl, by kernel_rfl, by kernel_rfl⟩ (Lib.laidMet.reads h3.tail (.head _)) (Lib.laidMet.reads h1.tail (.head _))
  · obtain ⟨a1, s1, hv1, -, -, -⟩ := laid_sentinel (g := 1) (ti := 50) (te := 110) h3 (by kernel_rfl) (by kernel_rfl) Tryd.underlying50 errRow (by kernel_rfl) Tryd.underlying110 rfl rfl Tryd.underlying9 (by kernel_rfl) (by kernel_rfl)
    exact ⟨_, _, by have h0 := World.var?_cell (P := Tryd.prog) (g := 1) (by kernel_rfl) hv1 0; simpa using h0⟩
  · obtain ⟨a1, s1, hv1, -, -, -⟩ := laid_sentinel (g := 2) (ti := 50) (te := 110) h2 (by kernel_rfl) (by kernel_rfl) Tryd.underlying50 errRow (by kernel_rfl) Tryd.underlying110 rfl rfl Tryd.underlying9 (by kernel_rfl) (by kernel_rfl)
    exact ⟨_, _, by have h0 := World.var?_cell (P := Tryd.prog) (g := 2) (by kernel_rfl) hv1 0; simpa using h0⟩
  · exact Lib.tabIs_of_head (g := 3) (t := 93) (e := 78) (n := 20) (by kernel_rfl) (by kernel_rfl) (by kernel_rfl) (by kernel_rfl) (by kernel_rfl) (by kernel_rfl) h1
theorem adr_cellsOf : Tryd.prog.cellsOf 24 = 5 := by kernel_rfl
theorem adr_c1 : Tryd.prog.cellsOf 9 = 1 ∧ Tryd.prog.cellsOf 3 = 1 := ⟨by kernel_rfl, by kernel_rfl⟩
section
variable {H : Type} {enc : TypeId × Value → H} {W : World}
set_option maxRecDepth 100000 in
theorem open_adr {v : Value} {d : DataW H} {ps : List MemPlace} {base : Nat} (hv : Value.okWide Tryd.prog W .any base 24 v)
    (h : DataW.Trod enc Tryd.prog W 0 (fun _ => true) true 24 v d ps) : ∃ a : Adr, v = adrV a ∧ -9223372036854775808 ≤ a.kind ∧ a.kind ≤ 9223372036854775807 ∧ -9223372036854775808 ≤ a.port ∧ a.port ≤ 9223372036854775807 ∧ a.id.length + a.host.length + a.path.length ≤ Rows.uptoBulk d := by
  obtain ⟨cs, rfl, hsz⟩ := okWide_struct adr_under hv
  obtain ⟨l⟩ := cs
  obtain ⟨fuel, hf⟩ := h
  obtain ⟨xs, n, _, hx, hlc, hlen, hg⟩ := DataW.trod_struct adr_under hf
  have hcl : (Value.agg ⟨l⟩).cells.toList = l := rfl
  rw [hcl] at hg hlc
  rw [adr_cellsOf] at hlc
  have hfs : (Tryd.prog.fieldsOf 24).size = 5 := by rw [← Array.length_toList, adr_fields]; rfl
  rw [hfs] at hlen
  obtain ⟨cS, cI⟩ := adr_c1
  have g0 := hg 0 _ (by rw [← Array.getElem?_toList, adr_fields]; rfl)
  dsimp only at g0
  have g1 := hg 1 _ (by rw [← Array.getElem?_toList, adr_fields]; rfl)
  dsimp only at g1
  have g2 := hg 2 _ (by rw [← Array.getElem?_toList, adr_fields]; rfl)
  dsimp only at g2
  have g3 := hg 3 _ (by rw [← Array.getElem?_toList, adr_fields]; rfl)
  dsimp only at g3
  have g4 := hg 4 _ (by rw [← Array.getElem?_toList, adr_fields]; rfl)
  dsimp only at g4
  rw [cS] at g1 g2 g4
  rw [cI] at g0 g3
  match l, hlc with
  | [c0, c1, c2, c3, c4], _ =>
    match xs, hlen with
    | [y0, y1, y2, y3, y4], _ =>
      obtain ⟨s0, e0, x0, b0⟩ := DataW.trod_int Tryd.underlying3 g0
      have b0 := bounds_i64 b0
      obtain ⟨s1, e1, x1, _⟩ := DataW.trod_string Tryd.underlying9 g1
      obtain ⟨s2, e2, x2, _⟩ := DataW.trod_string Tryd.underlying9 g2
      obtain ⟨s3, e3, x3, b3⟩ := DataW.trod_int Tryd.underlying3 g3
      have b3 := bounds_i64 b3
      obtain ⟨s4, e4, x4, _⟩ := DataW.trod_string Tryd.underlying9 g4
      simp at e0 e1 e2 e3 e4
      subst e0 x0 e1 x1 e2 x2 e3 x3 e4 x4
      simp only [List.map_cons, List.map_nil, Prod.mk.injEq] at hx
      obtain ⟨rfl, -⟩ := hx
      refine ⟨⟨s0, s1.data.toList, s2.data.toList, s3, s4.data.toList⟩, by simp [adrV], by simp only; omega, by simp only; omega, by simp only; omega, by simp only; omega, ?_⟩
      simp only [Rows.uptoBulk, Rows.uptoBulkAll]
      omega
end
end Go.Proofs.YtjbfkalkcopapaaDoor
