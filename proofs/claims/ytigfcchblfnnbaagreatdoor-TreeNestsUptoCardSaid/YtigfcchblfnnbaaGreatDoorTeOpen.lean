/- What the cards of this package take: the world's facts out of the row's list, the handle among them; the witness's world; a leaf. -/
import Derived.Test.YtigfcchblfnnbaaGreatDoorTeL
import Derived.Test.YtigfcchblfnnbaaGreatDoorLfB
import Derived.Test.YtigfcchblfnnbaaGreatDoorTkH
import Derived.Clock
import Derived.Lib.LaidU8
import Derived.LaidHandle
import Derived.Stop.LaidErr
import Derived.Deep.DeepWitnessRowRef
namespace Go.Proofs.YtigfcchblfnnbaaGreatDoor
open Go Go.RowKit Go.ChangeShapes Go.WideShapes Go.ChangeAt
set_option linter.all false
theorem firstEq : (Rows.laid_unicode_utf8_first : DataW Unit) = Lib.firstData := by kernel_rfl
theorem acceptEq : (Rows.laid_unicode_utf8_acceptRanges : DataW Unit) = Lib.acceptData := by kernel_rfl
theorem foldEq : (Rows.laid_unicode_asciiFold : DataW Unit) = Lib.tabData .u16 Tk.foldTab := by kernel_rfl
theorem powEq : (Rows.laid_internal_strconv_uint64pow10 : DataW Unit) = Lib.tabData .u64 Lib.pow10Tab := by kernel_rfl
theorem vmEq : (Rows.laid_pennant_xmltree_valueMarks : DataW Unit) = .agg (Te.vMarks.map fun p => .lit (.string p)) := by kernel_rfl
theorem tmEq : (Rows.laid_pennant_xmltree_textMarks : DataW Unit) = .agg (Te.tMarks8.map fun p => .lit (.string p)) := by kernel_rfl
def plainList : List (String × DataW Unit) := [("math/bits.deBruijn32tab", Rows.laid_math_bits_deBruijn32tab), ("math/bits.deBruijn64tab", Rows.laid_math_bits_deBruijn64tab), ("internal/strconv.uint64pow10", Rows.laid_internal_strconv_uint64pow10), ("unicode/utf8.acceptRanges", Rows.laid_unicode_utf8_acceptRanges), ("unicode.asciiFold", Rows.laid_unicode_asciiFold), ("unicode.caseOrbit", Rows.laid_unicode_caseOrbit), ("pennant/xmltree.valueMarks", Rows.laid_pennant_xmltree_valueMarks), ("pennant/xmltree.textMarks", Rows.laid_pennant_xmltree_textMarks), ("unicode.CaseRanges", Rows.laid_unicode_CaseRanges), ("unicode/utf8.first", Rows.laid_unicode_utf8_first)]
def handList : List (String × DataW Unit) := [("errors.errorType", Rows.laid_errors_errorType)]
theorem rt_row : (Tryz.prog.cutTypes.find? (·.1 == "internal/reflectlite.rtype")).map (·.2) = some 134 := by kernel_rfl
theorem err_rows : ((List.range 335).filter fun t => Tryz.prog.rowNamed t [101, 114, 114, 111, 114]) = [31] := by kernel_rfl
theorem types_size : Tryz.prog.types.size = 335 := by kernel_rfl
theorem et_name : Tryz.prog.globalNamed "errors.errorType" = some 0 := by kernel_rfl
theorem handle_et {W : World} (h : handlesMet Tryz.prog handList W) : W.cell? ⟨0, 0, none⟩ = some (.iface 134 (.agg #[.pointer (some ⟨Tryz.prog.globals.size, 31, none⟩)])) := by
  obtain ⟨name, u, ty, e1, e2, e3, e4, e5⟩ := h _ (List.mem_singleton.2 rfl)
  have en : name = [101, 114, 114, 111, 114] := (Option.some.inj e1).symm
  subst en
  obtain rfl := Option.some.inj (rt_row.symm.trans e2)
  have hm : ty ∈ (List.range 335).filter fun t => Tryz.prog.rowNamed t [101, 114, 114, 111, 114] := List.mem_filter.2 ⟨List.mem_range.2 (by rw [← types_size]; exact e3), e4⟩
  rw [err_rows] at hm
  obtain rfl := List.mem_singleton.1 hm
  have hh : typeHandle Tryz.prog 31 = .pointer (some ⟨Tryz.prog.globals.size, 31, none⟩) := by rw [globs_size]; kernel_rfl
  rw [hh] at e5
  simpa using World.var?_cell et_name e5 0
theorem take_one {l : List Value} {k : Nat} {x : Value} (h : (l.drop k).take 1 = [x]) : l[k]? = some x := by
  have := congrArg (·[0]?) h
  simpa [List.getElem?_take, List.getElem?_drop] using this
theorem elem_string {H : Type} {enc : TypeId × Value → H} {P : Program} {w : World} {base : Nat} {sp : Nat → Bool} {held : Bool} {fuel : Nat} {t e : TypeId} {n : Nat} {cs : List Value} {ds : List (DataW H)} {p : List MemPlace} (ht : P.underlying t = some (.array n e)) (he : P.underlying e = some .string) (hc : P.cellsOf e = 1)
    (h : DataW.trod enc P w base sp held fuel t cs = some (.agg ds, p)) (i : Nat) (hi : i < n) (s : List UInt8) (hd : ds[i]? = some (.lit (.string s))) : cs[i]? = some (.string ⟨s.toArray⟩) := by
  obtain ⟨fuel', d, q, h1, h2⟩ := Lib.array_elem ht h i hi
  rw [hd] at h1
  cases h1
  rw [hc, Nat.mul_one] at h2
  obtain ⟨b, hb, hx, _⟩ := DataW.trod_string he h2
  have hs : s = b.data.toList := by
    have := congrArg Prod.fst hx
    simpa using this
  have := take_one hb
  rw [this, hs]
theorem marks_of {W : World} {name : String} {g t n : Nat} {l : List (List UInt8)} (h : Lib.VarReads Tryz.prog W name (.agg (l.map fun p => .lit (.string p)))) (hg : Tryz.prog.globalNamed name = some g) (hT : (Tryz.prog.globals[g]?).map (·.type) = some t) (hu : Tryz.prog.underlying t = some (.array n 9)) (hn : l.length = n) :
    ∀ (j : Nat) p, l[j]? = some p → W.cell? ⟨g, j, none⟩ = some (.string ⟨p.toArray⟩) := fun j p hp => by
  obtain ⟨g', t', cs, fuel, q, h1, h2, h3, h4⟩ := h
  obtain rfl := Option.some.inj (hg.symm.trans h1)
  obtain rfl := Option.some.inj (hT.symm.trans h2)
  have hj := (List.getElem?_eq_some_iff.1 hp).1
  have e := elem_string hu Tryz.underlying9 (by kernel_rfl) h4 j (by omega) p (by rw [List.getElem?_map, hp]; rfl)
  rw [World.var?_cell h1 h3]
  simpa using e
theorem tx_of {W : World} (hS : W.ShapedOpen Tryz.prog) (h : laidMetH Tryz.prog Rows.treePrefixesUptoRow.laid W) : Tk.TW W ∧ Te.XW W := by
  have h' : laidMet Tryz.prog plainList W ∧ handlesMet Tryz.prog handList W := h
  obtain ⟨h1, h2⟩ := h'
  unfold plainList at h1
  rw [firstEq, acceptEq, foldEq, powEq, vmEq, tmEq] at h1
  have h3 := h1.tail.tail
  have h4 := h3.tail.tail
  refine ⟨⟨?_, ?_, ?_⟩, ⟨?_, ?_, ?_, ?_⟩⟩
  · exact utf8Tabs_of_reads Tryz.lays260 ⟨by kernel_rfl, by kernel_rfl, by kernel_rfl, by kernel_rfl, by kernel_rfl, by kernel_rfl, by kernel_rfl⟩ (Lib.laidMet.reads h4.tail.tail.tail.tail.tail (.head _)) (Lib.laidMet.reads h3.tail (.head _))
  · exact Lib.tabIs_of_head (g := 3) (t := 212) (e := 211) (n := 128) (by kernel_rfl) (by kernel_rfl) (by kernel_rfl) (by kernel_rfl) (by kernel_rfl) (by kernel_rfl) h4
  · have := handle_et h2
    rw [globs_size] at this
    exact this
  · exact Go.Proofs.cell_of_shapedOpen_int (zero := #[.int .i64 0]) (t := 3) hS (of_decide_eq_true (by kernel_rfl)) (by kernel_rfl) rfl (by kernel_rfl) (by kernel_rfl) Tryz.underlying3
  · exact Lib.tabIs_of_head (g := 8) (t := 251) (e := 206) (n := 20) (by kernel_rfl) (by kernel_rfl) (by kernel_rfl) (by kernel_rfl) (by kernel_rfl) (by kernel_rfl) h3
  · exact marks_of (Lib.laidMet.reads h4.tail.tail (.head _)) (g := 2) (t := 110) (by kernel_rfl) (by kernel_rfl) Tryz.underlying110 rfl
  · exact marks_of (Lib.laidMet.reads h4.tail.tail.tail (.head _)) (g := 1) (t := 109) (by kernel_rfl) (by kernel_rfl) Tryz.underlying109 rfl
/-! ### the witness's world -/
noncomputable def handWorld (os : Os) : World :=
  let w0 := World.holding Tryz.prog os ⟨#[], #[], []⟩
  { w0 with heap := w0.heap.modify 0 fun
      | .cells _ t frozen => .cells #[.iface 134 (.agg #[.pointer (some ⟨12, 31, none⟩)])] t frozen
      | o => o }
noncomputable def layWorld (os : Os) : World := (handWorld os).layVars Tryz.prog plainList
theorem layWorld_os (os : Os) : (layWorld os).os = os := by
  unfold layWorld
  rw [World.layVars_os]
  rfl
theorem laidMet_from {P : Program} {w0 : World} {laid : List (String × DataW Unit)} (args : Array Value) (hf : w0.layFits P laid [] = true) (hi : w0.layIfaces P laid (w0.layVars P laid) = true) :
    laidMet P laid ((w0.layVars P laid).forCall (fun _ _ => 0) ⟨#[], args, []⟩).memory := by
  have e1 : (laid.filter fun x => (laid.map (·.1)).contains x.1) = laid := List.filter_eq_self.2 fun x hx => List.contains_iff_mem.2 (List.mem_map.2 ⟨x, hx, rfl⟩)
  have e2 : (laid.filter fun x => !(laid.map (·.1)).contains x.1) = [] := List.filter_eq_nil_iff.2 fun x hx => by rw [List.contains_iff_mem.2 (List.mem_map.2 ⟨x, hx, rfl⟩)]; simp
  have h : laidMet P laid (w0.layVars P laid) := laidMet_layVars (w0 := w0) (laid.map (·.1)) [] (by rw [e1]) (by rw [e1]; exact hf) (by rw [e1]; exact hi) (by rw [e2]; exact LaidIn.none)
  exact h.of_heap (by simp [World.memory, World.forCall, Input.heap])
theorem layWorld_met (os : Os) (args : Array Value) : laidMetH Tryz.prog Rows.treePrefixesUptoRow.laid ((layWorld os).forCall (fun _ _ => 0) ⟨#[], args, []⟩).memory :=
  laidMetH_of_parts (show laidMet Tryz.prog plainList _ from laidMet_from args (by kernel_rfl) (by kernel_rfl)) (by kernel_rfl)
abbrev Bytes := List UInt8
structure LeafV where
  lo : Bytes
  one : Bytes
  two : Bytes
  a : Bytes
  b : Bytes
  deriving DecidableEq
def leafV (x : LeafV) : Value := .agg #[.string ⟨x.lo.toArray⟩, .string ⟨x.one.toArray⟩, .string ⟨x.two.toArray⟩, .string ⟨x.a.toArray⟩, .string ⟨x.b.toArray⟩]
theorem leaf_under : Tryz.prog.underlying 23 = some (.struct (Tryz.prog.fieldsOf 23)) := by kernel_rfl
theorem leaf_fields : (Tryz.prog.fieldsOf 23).toList = [{ name := "Local", type := 9, offset := 0, embedded := false, tag := "", pkgPath := "", byteOffset := 0 }, { name := "One", type := 9, offset := 1, embedded := false, tag := "", pkgPath := "", byteOffset := 16 }, { name := "Two", type := 9, offset := 2, embedded := false, tag := "", pkgPath := "", byteOffset := 32 }, { name := "A", type := 9, offset := 3, embedded := false, tag := "", pkgPath := "", byteOffset := 48 }, { name := "B", type := 9, offset := 4, embedded := false, tag := "", pkgPath := "", byteOffset := 64 }] := by kernel_rfl
theorem leaf_cellsOf : Tryz.prog.cellsOf 23 = 5 := by kernel_rfl
theorem leaf_c1 : Tryz.prog.cellsOf 9 = 1 ∧ Tryz.prog.cellsOf 3 = 1 := ⟨by kernel_rfl, by kernel_rfl⟩
section
variable {H : Type} {enc : TypeId × Value → H} {W : World}
set_option maxRecDepth 100000 in
theorem open_leaf {v : Value} {d : DataW H} {ps : List MemPlace} {base : Nat} (hv : Value.okWide Tryz.prog W .any base 23 v)
    (h : DataW.Trod enc Tryz.prog W 0 (fun _ => true) true 23 v d ps) : ∃ a : LeafV, v = leafV a ∧ a.lo.length + a.one.length + a.two.length + a.a.length + a.b.length ≤ Rows.uptoBulk d := by
  obtain ⟨cs, rfl, hsz⟩ := okWide_struct leaf_under hv
  obtain ⟨l⟩ := cs
  obtain ⟨fuel, hf⟩ := h
  obtain ⟨xs, n, _, hx, hlc, hlen, hg⟩ := DataW.trod_struct leaf_under hf
  have hcl : (Value.agg ⟨l⟩).cells.toList = l := rfl
  rw [hcl] at hg hlc
  rw [leaf_cellsOf] at hlc
  have hfs : (Tryz.prog.fieldsOf 23).size = 5 := by rw [← Array.length_toList, leaf_fields]; rfl
  rw [hfs] at hlen
  obtain ⟨cS, cI⟩ := leaf_c1
  have g0 := hg 0 _ (by rw [← Array.getElem?_toList, leaf_fields]; rfl)
  dsimp only at g0
  have g1 := hg 1 _ (by rw [← Array.getElem?_toList, leaf_fields]; rfl)
  dsimp only at g1
  have g2 := hg 2 _ (by rw [← Array.getElem?_toList, leaf_fields]; rfl)
  dsimp only at g2
  have g3 := hg 3 _ (by rw [← Array.getElem?_toList, leaf_fields]; rfl)
  dsimp only at g3
  have g4 := hg 4 _ (by rw [← Array.getElem?_toList, leaf_fields]; rfl)
  dsimp only at g4
  rw [cS] at g0 g1 g2 g3 g4
  match l, hlc with
  | [c0, c1, c2, c3, c4], _ =>
    match xs, hlen with
    | [y0, y1, y2, y3, y4], _ =>
      obtain ⟨s0, e0, x0, _⟩ := DataW.trod_string Tryz.underlying9 g0
      obtain ⟨s1, e1, x1, _⟩ := DataW.trod_string Tryz.underlying9 g1
      obtain ⟨s2, e2, x2, _⟩ := DataW.trod_string Tryz.underlying9 g2
      obtain ⟨s3, e3, x3, _⟩ := DataW.trod_string Tryz.underlying9 g3
      obtain ⟨s4, e4, x4, _⟩ := DataW.trod_string Tryz.underlying9 g4
      simp at e0 e1 e2 e3 e4
      subst e0 x0 e1 x1 e2 x2 e3 x3 e4 x4
      simp only [List.map_cons, List.map_nil, Prod.mk.injEq] at hx
      obtain ⟨rfl, -⟩ := hx
      refine ⟨⟨s0.data.toList, s1.data.toList, s2.data.toList, s3.data.toList, s4.data.toList⟩, by simp [leafV], ?_⟩
      simp only [Rows.uptoBulk, Rows.uptoBulkAll]
      omega
end
end Go.Proofs.YtigfcchblfnnbaaGreatDoor
