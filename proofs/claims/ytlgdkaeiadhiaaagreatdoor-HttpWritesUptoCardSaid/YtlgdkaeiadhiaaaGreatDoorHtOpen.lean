/- What the cards of this package take: the world's facts out of the row's list, the handle among them; the witness's world; arguments that are requests and responses. -/
import Derived.Test.YtlgdkaeiadhiaaaGreatDoorHt20
import Derived.Test.YtlgdkaeiadhiaaaGreatDoorHt21
import Derived.Test.YtlgdkaeiadhiaaaGreatDoorHt22
import Derived.Test.YtlgdkaeiadhiaaaGreatDoorLift2
import Derived.Test.YtlgdkaeiadhiaaaGreatDoorOpenRows
import Derived.Clock
import Derived.Lib.LaidU8
import Derived.LaidHandle
import Derived.Stop.LaidErr
import Derived.Deep.DeepWitnessRowRef
namespace Go.Proofs.YtlgdkaeiadhiaaaGreatDoor
open Go Go.RowKit Go.ChangeShapes Go.WideShapes Go.ChangeAt
set_option linter.all false
theorem firstEq : (Rows.laid_unicode_utf8_first : DataW Unit) = Lib.firstData := by kernel_rfl
theorem acceptEq : (Rows.laid_unicode_utf8_acceptRanges : DataW Unit) = Lib.acceptData := by kernel_rfl
theorem powEq : (Rows.laid_internal_strconv_uint64pow10 : DataW Unit) = Lib.tabData .u64 Lib.pow10Tab := by kernel_rfl
def plainList : List (String × DataW Unit) := [("math/bits.deBruijn32tab", Rows.laid_math_bits_deBruijn32tab), ("math/bits.deBruijn64tab", Rows.laid_math_bits_deBruijn64tab), ("internal/strconv.uint64pow10", Rows.laid_internal_strconv_uint64pow10), ("unicode/utf8.acceptRanges", Rows.laid_unicode_utf8_acceptRanges), ("strconv.ErrRange", Rows.laid_strconv_ErrRange), ("strconv.ErrSyntax", Rows.laid_strconv_ErrSyntax), ("unicode/utf8.first", Rows.laid_unicode_utf8_first)]
def handList : List (String × DataW Unit) := [("errors.errorType", Rows.laid_errors_errorType)]
theorem rt_row : (Tryz.prog.cutTypes.find? (·.1 == "internal/reflectlite.rtype")).map (·.2) = some 135 := by kernel_rfl
theorem err_rows : ((List.range 209).filter fun t => Tryz.prog.rowNamed t [101, 114, 114, 111, 114]) = [53] := by kernel_rfl
theorem types_size : Tryz.prog.types.size = 209 := by kernel_rfl
theorem et_name : Tryz.prog.globalNamed "errors.errorType" = some 0 := by kernel_rfl
theorem handle_et {W : World} (h : handlesMet Tryz.prog handList W) : W.cell? ⟨0, 0, none⟩ = some (.iface 135 (.agg #[.pointer (some ⟨Tryz.prog.globals.size, 53, none⟩)])) := by
  obtain ⟨name, u, ty, e1, e2, e3, e4, e5⟩ := h _ (List.mem_singleton.2 rfl)
  have en : name = [101, 114, 114, 111, 114] := (Option.some.inj e1).symm
  subst en
  obtain rfl := Option.some.inj (rt_row.symm.trans e2)
  have hm : ty ∈ (List.range 209).filter fun t => Tryz.prog.rowNamed t [101, 114, 114, 111, 114] := List.mem_filter.2 ⟨List.mem_range.2 (by rw [← types_size]; exact e3), e4⟩
  rw [err_rows] at hm
  obtain rfl := List.mem_singleton.1 hm
  have hh : typeHandle Tryz.prog 53 = .pointer (some ⟨Tryz.prog.globals.size, 53, none⟩) := by rw [globs_size]; kernel_rfl
  rw [hh] at e5
  simpa using World.var?_cell et_name e5 0
theorem hw_of {W : World} (hS : W.ShapedOpen Tryz.prog) (h : laidMetH Tryz.prog Rows.httpBeginsUptoRow.laid W) : HW W := by
  have h' : laidMet Tryz.prog plainList W ∧ handlesMet Tryz.prog handList W := h
  obtain ⟨h1, h2⟩ := h'
  unfold plainList at h1
  rw [firstEq, acceptEq, powEq] at h1
  have h3 := h1.tail.tail
  refine ⟨?_, ?_, ?_, handle_et h2⟩
  · exact Go.Proofs.cell_of_shapedOpen_int (zero := #[.int .i64 0]) (t := 3) hS (of_decide_eq_true (by kernel_rfl)) (by kernel_rfl) rfl (by kernel_rfl) (by kernel_rfl) Tryz.underlying3
  · exact utf8Tabs_of_reads Tryz.lays260 ⟨by kernel_rfl, by kernel_rfl, by kernel_rfl, by kernel_rfl, by kernel_rfl, by kernel_rfl, by kernel_rfl⟩ (Lib.laidMet.reads h3.tail.tail.tail.tail (.head _)) (Lib.laidMet.reads h3.tail (.head _))
  · exact Lib.tabIs_of_head (g := 4) (t := 166) (e := 149) (n := 20) (by kernel_rfl) (by kernel_rfl) (by kernel_rfl) (by kernel_rfl) (by kernel_rfl) (by kernel_rfl) h3
/-! ### the witness's world -/
noncomputable def handWorld (os : Os) : World :=
  let w0 := World.holding Tryz.prog os ⟨#[], #[], []⟩
  { w0 with heap := w0.heap.modify 0 fun
      | .cells _ t frozen => .cells #[.iface 135 (.agg #[.pointer (some ⟨9, 53, none⟩)])] t frozen
      | o => o }
noncomputable def layWorld (os : Os) : World := (handWorld os).layVars Tryz.prog plainList
theorem layWorld_os (os : Os) : (layWorld os).os = os := by
  unfold layWorld
  rw [World.layVars_os]
  rfl
theorem laidMet_from {P : Program} {w0 : World} {laid : List (String × DataW Unit)} (args : Array Value) (hf : w0.layFits P laid [] = true) (hi : w0.layIfaces P laid (w0.layVars P laid) = true) :
    laidMet P laid ((w0.layVars P laid).forCall (fun _ _ => 0) ⟨#[], args, []⟩).memory := by
  have e1 : (laid.filter fun x => (laid.map (·.1)).contains x.1) = laid := List.filter_eq_self.2 fun x hx => List.contains_iff_mem.2 (List.mem_map.2 ⟨x, hx, rfl⟩)
  have e2 : (laid.filter fun x => !(laid.map (·.1)).contains x.1) = [] := List.filter_eq_nil_iff.2 fun x hx => by rw [List.contains_iff_mem.2 (List.mem_map.2 ⟨x, hx, rfl⟩)]; simp
  have h : laidMet P laid (w0.layVars P laid) := laidMet_layVars (w0 := w0) (laid.map (·.1)) [] (by rw [e1]) (by rw [e1]; exact hf) (by rw [e1]; exact hi) (by rw [e2]; exact LaidIn.none)
  exact h.of_heap (by simp [World.memory, World.forCall, Input.heap])
theorem layWorld_met (os : Os) (args : Array Value) : laidMetH Tryz.prog Rows.httpBeginsUptoRow.laid ((layWorld os).forCall (fun _ _ => 0) ⟨#[], args, []⟩).memory :=
  laidMetH_of_parts (show laidMet Tryz.prog plainList _ from laidMet_from args (by kernel_rfl) (by kernel_rfl)) (by kernel_rfl)
theorem req_cellsOf : Tryz.prog.cellsOf 24 = 5 := by kernel_rfl
theorem req_c1 : Tryz.prog.cellsOf 9 = 1 ∧ Tryz.prog.cellsOf 3 = 1 := ⟨by kernel_rfl, by kernel_rfl⟩
section
variable {H : Type} {enc : TypeId × Value → H} {W : World}
set_option maxRecDepth 100000 in
theorem open_req {v : Value} {d : DataW H} {ps : List MemPlace} {base : Nat} (hv : Value.okWide Tryz.prog W .any base 24 v)
    (h : DataW.Trod enc Tryz.prog W 0 (fun _ => true) true 24 v d ps) : ∃ a : Req, v = reqV a ∧ a.method.length + a.target.length + a.host.length + a.type.length + a.body.length ≤ Rows.uptoBulk d := by
  obtain ⟨cs, rfl, hsz⟩ := okWide_struct req_under hv
  obtain ⟨l⟩ := cs
  obtain ⟨fuel, hf⟩ := h
  obtain ⟨xs, n, _, hx, hlc, hlen, hg⟩ := DataW.trod_struct req_under hf
  have hcl : (Value.agg ⟨l⟩).cells.toList = l := rfl
  rw [hcl] at hg hlc
  rw [req_cellsOf] at hlc
  have hfs : (Tryz.prog.fieldsOf 24).size = 5 := by rw [← Array.length_toList, req_fields]; rfl
  rw [hfs] at hlen
  obtain ⟨cS, cI⟩ := req_c1
  have g0 := hg 0 _ (by rw [← Array.getElem?_toList, req_fields]; rfl)
  dsimp only at g0
  have g1 := hg 1 _ (by rw [← Array.getElem?_toList, req_fields]; rfl)
  dsimp only at g1
  have g2 := hg 2 _ (by rw [← Array.getElem?_toList, req_fields]; rfl)
  dsimp only at g2
  have g3 := hg 3 _ (by rw [← Array.getElem?_toList, req_fields]; rfl)
  dsimp only at g3
  have g4 := hg 4 _ (by rw [← Array.getElem?_toList, req_fields]; rfl)
  dsimp only at g4
  rw [cS] at g0 g1 g2 g3 g4
  match l, hlc with
  | [c0, c1, c2, c3, c4], _ =>
    match xs, hlen with
    | [y0, y1, y2, y3, y4], _ =>
      obtain ⟨s0, e0, x0, _⟩ := DataW.trod_string Tryz.underlying9 g0
      obtain ⟨s1, e1, x1, _⟩ := DataW.trod_string Tryz.underlying9 g1
      obtain ⟨s2, e2, x2, _⟩ := DataW.trod_string Tryz.underlying9 g2
      obtain ⟨s3, e3, x3, _⟩ := DataW.trod_string Tryz.underlying9 g3
      obtain ⟨s4, e4, x4, _⟩ := DataW.trod_string Tryz.underlying9 g4
      simp at e0 e1 e2 e3 e4
      subst e0 x0 e1 x1 e2 x2 e3 x3 e4 x4
      simp only [List.map_cons, List.map_nil, Prod.mk.injEq] at hx
      obtain ⟨rfl, -⟩ := hx
      refine ⟨⟨s0.data.toList, s1.data.toList, s2.data.toList, s3.data.toList, s4.data.toList⟩, by simp [reqV], ?_⟩
      simp only [Rows.uptoBulk, Rows.uptoBulkAll]
      omega
end
theorem resp_cellsOf : Tryz.prog.cellsOf 31 = 2 := by kernel_rfl
theorem resp_c1 : Tryz.prog.cellsOf 9 = 1 ∧ Tryz.prog.cellsOf 3 = 1 := ⟨by kernel_rfl, by kernel_rfl⟩
section
variable {H : Type} {enc : TypeId × Value → H} {W : World}
set_option maxRecDepth 100000 in
theorem open_resp {v : Value} {d : DataW H} {ps : List MemPlace} {base : Nat} (hv : Value.okWide Tryz.prog W .any base 31 v)
    (h : DataW.Trod enc Tryz.prog W 0 (fun _ => true) true 31 v d ps) : ∃ a : Resp, v = respV a ∧ -9223372036854775808 ≤ a.status ∧ a.status ≤ 9223372036854775807 ∧ a.body.length ≤ Rows.uptoBulk d := by
  obtain ⟨cs, rfl, hsz⟩ := okWide_struct resp_under hv
  obtain ⟨l⟩ := cs
  obtain ⟨fuel, hf⟩ := h
  obtain ⟨xs, n, _, hx, hlc, hlen, hg⟩ := DataW.trod_struct resp_under hf
  have hcl : (Value.agg ⟨l⟩).cells.toList = l := rfl
  rw [hcl] at hg hlc
  rw [resp_cellsOf] at hlc
  have hfs : (Tryz.prog.fieldsOf 31).size = 2 := by rw [← Array.length_toList, resp_fields]; rfl
  rw [hfs] at hlen
  obtain ⟨cS, cI⟩ := resp_c1
  have g0 := hg 0 _ (by rw [← Array.getElem?_toList, resp_fields]; rfl)
  dsimp only at g0
  have g1 := hg 1 _ (by rw [← Array.getElem?_toList, resp_fields]; rfl)
  dsimp only at g1
  rw [cS] at g1
  rw [cI] at g0
  match l, hlc with
  | [c0, c1], _ =>
    match xs, hlen with
    | [y0, y1], _ =>
      obtain ⟨s0, e0, x0, b0⟩ := DataW.trod_int Tryz.underlying3 g0
      have b0 := bounds_i64 b0
      obtain ⟨s1, e1, x1, _⟩ := DataW.trod_string Tryz.underlying9 g1
      simp at e0 e1
      subst e0 x0 e1 x1
      simp only [List.map_cons, List.map_nil, Prod.mk.injEq] at hx
      obtain ⟨rfl, -⟩ := hx
      refine ⟨⟨s0, s1.data.toList⟩, by simp [respV], by simp only; omega, by simp only; omega, ?_⟩
      simp only [Rows.uptoBulk, Rows.uptoBulkAll]
      omega
end
def reqCells (a : Req) : List Value := [.string ⟨a.method.toArray⟩, .string ⟨a.target.toArray⟩, .string ⟨a.host.toArray⟩, .string ⟨a.type.toArray⟩, .string ⟨a.body.toArray⟩]
def reqFits {H : Type} (a : Req) (d : DataW H) : Prop := a.method.length + a.target.length + a.host.length + a.type.length + a.body.length ≤ Rows.uptoBulk d
section
variable {H : Type} {enc : TypeId × Value → H} {W : World}
set_option maxRecDepth 100000 in
theorem open_req_cells (fuel : Nat) (l : List Value) (x : DataW H × List MemPlace) (hf : DataW.trod enc Tryz.prog W 0 (fun _ => true) true fuel 24 l = some x) : ∃ a : Req, l = reqCells a ∧ reqFits a x.1 := by
  obtain ⟨xs, n, _, hx, hlc, hlen, hg⟩ := DataW.trod_struct req_under hf
  rw [req_cellsOf] at hlc
  have hfs : (Tryz.prog.fieldsOf 24).size = 5 := by rw [← Array.length_toList, req_fields]; rfl
  rw [hfs] at hlen
  obtain ⟨cS, cI⟩ := req_c1
  have g0 := hg 0 _ (by rw [← Array.getElem?_toList, req_fields]; rfl)
  dsimp only at g0
  have g1 := hg 1 _ (by rw [← Array.getElem?_toList, req_fields]; rfl)
  dsimp only at g1
  have g2 := hg 2 _ (by rw [← Array.getElem?_toList, req_fields]; rfl)
  dsimp only at g2
  have g3 := hg 3 _ (by rw [← Array.getElem?_toList, req_fields]; rfl)
  dsimp only at g3
  have g4 := hg 4 _ (by rw [← Array.getElem?_toList, req_fields]; rfl)
  dsimp only at g4
  rw [cS] at g0 g1 g2 g3 g4
  match l, hlc with
  | [c0, c1, c2, c3, c4], _ =>
    match xs, hlen with
    | [y0, y1, y2, y3, y4], _ =>
      obtain ⟨s0, e0, x0, _⟩ := DataW.trod_string Tryz.underlying9 g0
      obtain ⟨s1, e1, x1, _⟩ := DataW.trod_string Tryz.underlying9 g1
      obtain ⟨s2, e2, x2, _⟩ := DataW.trod_string Tryz.underlying9 g2
      obtain ⟨s3, e3, x3, _⟩ := DataW.trod_string Tryz.underlying9 g3
      obtain ⟨s4, e4, x4, _⟩ := DataW.trod_string Tryz.underlying9 g4
      simp at e0 e1 e2 e3 e4
      subst e0 x0 e1 x1 e2 x2 e3 x3 e4 x4
      subst hx
      refine ⟨⟨s0.data.toList, s1.data.toList, s2.data.toList, s3.data.toList, s4.data.toList⟩, by simp [reqCells], ?_⟩
      unfold reqFits
      simp only [List.map_cons, List.map_nil, Rows.uptoBulk, Rows.uptoBulkAll]
      omega
end
instance : Inhabited Req := ⟨Req.zero⟩
set_option maxRecDepth 100000 in
theorem open_reqs {H : Type} {enc : TypeId × Value → H} {W : World} {v : Value} {d : DataW H} {ps : List MemPlace} {base : Nat} (hv : Value.okWide Tryz.prog W .any base 47 v) (h : DataW.Trod enc Tryz.prog W 0 (fun _ => true) true 47 v d ps) :
    ∃ rs : List Req, LRead 5 rcells W v rs ∧ rs.length ≤ Rows.uptoBulk d ∧ ∀ r ∈ rs, rsize r ≤ Rows.uptoBulk d := by
  obtain ⟨rs, h1, h2, h3⟩ := open_rows (α := Req) (B := reqFits) Tryz.underlying47 req_cellsOf (by decide) (fun a => rfl) open_req_cells hv h
  exact ⟨rs, h1, h2, fun r hr => by obtain ⟨d', hB, hle⟩ := h3 r hr; exact Nat.le_trans hB hle⟩
end Go.Proofs.YtlgdkaeiadhiaaaGreatDoor
