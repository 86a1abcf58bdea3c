/- What the cards of layer 5 take: the world's facts out of the row's list. -/
import Derived.Test.YtepmneongpbglaaGreatDoorLk15
import Derived.Test.YtepmneongpbglaaGreatDoorLift2
import Derived.Test.YtepmneongpbglaaGreatDoorBulk
import Derived.Clock
import Derived.Lib.LaidU8
import Derived.Stop.LaidErr
import Derived.Deep.DeepWitnessRowRef
namespace Go.Proofs.YtepmneongpbglaaGreatDoor
open Go Go.RowKit Go.ChangeShapes Go.WideShapes Go.ChangeAt
set_option linter.all false
section
variable {H : Type} {enc : TypeId × Value → H} {P : Program} {w : World} {base : Nat} {sp : Nat → Bool} {held : Bool}
theorem take_one {cs : List Value} {k : Nat} {v : Value} (h : (cs.drop k).take 1 = [v]) : cs[k]? = some v := by
  have := congrArg (·[0]?) h
  simpa [List.getElem?_take, List.getElem?_drop] using this
theorem field_int {fuel : Nat} {t : TypeId} {fs : Array Field} {cs : List Value} {ds : List (DataW H)} {p : List MemPlace} (ht : P.underlying t = some (.struct fs)) (h : DataW.trod enc P w base sp held fuel t cs = some (.agg ds, p))
    (i : Nat) (f : Field) (k : IntKind) (z : Int) (hf : fs[i]? = some f) (hu : P.underlying f.type = some (.int k)) (hc : P.cellsOf f.type = 1) (hd : ds[i]? = some (.lit (.int k z))) : cs[f.offset]? = some (.int k z) := by
  obtain ⟨xs, n, rfl, hx, hl, hxl, hall⟩ := DataW.trod_struct ht h
  have h1 := hall i f hf
  have hds : ds = xs.map (·.1) := by
    have := congrArg Prod.fst hx
    simpa using this
  rw [hds, List.getElem?_map] at hd
  obtain ⟨b, hb, hb1⟩ := Option.map_eq_some_iff.1 hd
  rw [hb, hc] at h1
  obtain ⟨y, hy, rfl, _⟩ := DataW.trod_int hu h1
  simp only [DataW.lit.injEq, Lit.int.injEq, true_and] at hb1
  rw [← hb1]
  exact take_one hy
theorem elem_string {fuel : Nat} {t e : TypeId} {n : Nat} {cs : List Value} {ds : List (DataW H)} {p : List MemPlace} (ht : P.underlying t = some (.array n e)) (he : P.underlying e = some .string) (hc : P.cellsOf e = 1)
    (h : DataW.trod enc P w base sp held fuel t cs = some (.agg ds, p)) (i : Nat) (hi : i < n) (s : List UInt8) (hd : ds[i]? = some (.lit (.string s))) : cs[i]? = some (.string ⟨s.toArray⟩) := by
  obtain ⟨fuel', d, q, h1, h2⟩ := Lib.array_elem ht h i hi
  rw [hd] at h1
  cases h1
  rw [hc, Nat.mul_one] at h2
  obtain ⟨b, hb, hx, _⟩ := DataW.trod_string he h2
  have hs : s = b.data.toList := by
    have := congrArg Prod.fst hx
    simpa using this
  have := take_one hb
  rw [this, hs]
end
theorem firstEq : (Rows.laid_unicode_utf8_first : DataW Unit) = Lib.firstData := by kernel_rfl
theorem acceptEq : (Rows.laid_unicode_utf8_acceptRanges : DataW Unit) = Lib.acceptData := by kernel_rfl
theorem marksEq : (Rows.laid_pennant_eslex_marks : DataW Unit) = .agg (Lx.marks.map fun m => .lit (.string m)) := by kernel_rfl
theorem f64_of {W : World} (hS : W.ShapedOpen Tryz.prog) (h : laidMetH Tryz.prog Rows.lexNamesUptoRow.laid W) : Rf.F64 W := by
  rw [MakeChecks.laidMetH_plain _ _ _ (by kernel_rfl)] at h
  unfold Rows.lexNamesUptoRow at h
  have R := Lib.laidMet.reads h (n := "internal/strconv.float64info") (d := Rows.laid_internal_strconv_float64info) (by simp)
  obtain ⟨g, t, cs, fuel, p, h1, h2, h3, h4⟩ := R
  obtain rfl := Option.some.inj ((show Tryz.prog.globalNamed "internal/strconv.float64info" = some 9 by kernel_rfl).symm.trans h1)
  obtain rfl := Option.some.inj ((show (Tryz.prog.globals[9]?).map (·.type) = some 119 by kernel_rfl).symm.trans h2)
  unfold Rows.laid_internal_strconv_float64info at h4
  have c := fun i => World.var?_cell h1 h3 i
  refine ⟨?_, ?_, ?_, ?_, ?_⟩
  · rw [c 0, ← Array.getElem?_toList]; exact field_int Tryz.underlying119 h4 0 _ .u64 52 rfl (by kernel_rfl) (by kernel_rfl) rfl
  · rw [c 1, ← Array.getElem?_toList]; exact field_int Tryz.underlying119 h4 1 _ .u64 11 rfl (by kernel_rfl) (by kernel_rfl) rfl
  · rw [c 2, ← Array.getElem?_toList]; exact field_int Tryz.underlying119 h4 2 _ .i64 (-1023) rfl (by kernel_rfl) (by kernel_rfl) rfl
  · obtain ⟨cs', hcs, _⟩ := hS.1 9 #[.int .u64 0, .int .u64 0, .int .i64 0] 119 (of_decide_eq_true (by kernel_rfl)) (by kernel_rfl)
    exact ⟨_, _, hcs⟩
  · obtain ⟨cs', hcs, _⟩ := hS.1 7 #[.int .u64 0, .int .u64 0, .int .i64 0] 119 (of_decide_eq_true (by kernel_rfl)) (by kernel_rfl)
    exact ⟨_, _, hcs⟩
theorem lw_of {W : World} (hS : W.ShapedOpen Tryz.prog) (h : laidMetH Tryz.prog Rows.lexNamesUptoRow.laid W) : Lx.LW W := by
  rw [MakeChecks.laidMetH_plain _ _ _ (by kernel_rfl)] at h
  unfold Rows.lexNamesUptoRow at h
  rw [firstEq, acceptEq, marksEq] at h
  refine ⟨?_, ?_, ?_⟩
  · exact utf8Tabs_of_reads Tryz.lays260 ⟨by kernel_rfl, by kernel_rfl, by kernel_rfl, by kernel_rfl, by kernel_rfl, by kernel_rfl, by kernel_rfl⟩ (Lib.laidMet.reads h (by simp)) (Lib.laidMet.reads h (by simp))
  · exact Go.Proofs.cell_of_shapedOpen_int (zero := #[.int .i64 0]) (t := 3) hS (of_decide_eq_true (by kernel_rfl)) (by kernel_rfl) rfl (by kernel_rfl) (by kernel_rfl) Tryz.underlying3
  · intro k m hm
    have R := Lib.laidMet.reads h (n := "pennant/eslex.marks") (d := .agg (Lx.marks.map fun m => .lit (.string m))) (by simp)
    obtain ⟨g, t, cs, fuel, p, h1, h2, h3, h4⟩ := R
    obtain rfl := Option.some.inj ((show Tryz.prog.globalNamed "pennant/eslex.marks" = some 0 by kernel_rfl).symm.trans h1)
    obtain rfl := Option.some.inj ((show (Tryz.prog.globals[0]?).map (·.type) = some 54 by kernel_rfl).symm.trans h2)
    rw [World.var?_cell h1 h3 k, ← Array.getElem?_toList]
    have hk : k < 42 := by have := (List.getElem?_eq_some_iff.1 hm).1; rw [Lx.marks_len] at this; exact this
    exact elem_string Tryz.underlying54 Tryz.underlying9 (by kernel_rfl) h4 k hk m (by rw [List.getElem?_map, hm]; rfl)
end Go.Proofs.YtepmneongpbglaaGreatDoor
