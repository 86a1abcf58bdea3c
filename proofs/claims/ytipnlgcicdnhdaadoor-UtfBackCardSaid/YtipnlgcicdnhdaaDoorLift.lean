/- The frame of the cards of this seat: what the listed tables give, a world for the witness, and the last step of a row whose call turns nothing old. -/
import Derived.Test.YtipnlgcicdnhdaaDoorShelf
import Derived.Test.YtipnlgcicdnhdaaDoorBase
import Derived.Test.YtipnlgcicdnhdaaDoorCards
import Derived.Test.YtipnlgcicdnhdaaDoorTie
import Derived.ProofKit
import Derived.OpenShut
import Derived.Deep.DeepHandedRow
import Derived.Lib.LaidTab
import Derived.Lib.LaidU8
import Derived.ShutString
import Derived.SizedLaws
import Derived.Lib.SmallJoins
import Derived.MakeChecks
import Derived.Lay
import Derived.SevenTiedAt
namespace Go.Proofs.YtipnlgcicdnhdaaDoor
open Go Go.RowKit Go.ChangeShapes Go.WideShapes Go.ChangeAt
theorem own : ownKnob Tryd.prog.godebug = none := by kernel_rfl
theorem firstEq : (Rows.laid_unicode_utf8_first : DataW Unit) = Lib.firstData := by kernel_rfl
theorem acceptEq : (Rows.laid_unicode_utf8_acceptRanges : DataW Unit) = Lib.acceptData := by kernel_rfl
theorem tabs_of {W : World} (h : laidMetH Tryd.prog Rows.utfTurnsRow.laid W) : Lib.Utf8Tabs 0 1 W := by
  rw [MakeChecks.laidMetH_plain _ _ _ (by kernel_rfl)] at h
  unfold Rows.utfTurnsRow at h
  rw [firstEq, acceptEq] at h
  exact utf8Tabs_of_reads Tryd.lays260 ⟨by kernel_rfl, by kernel_rfl, by kernel_rfl, by kernel_rfl, by kernel_rfl, by kernel_rfl, by kernel_rfl⟩ (Lib.laidMet.reads h (.tail _ (.head _))) (Lib.laidMet.reads h (.head _))
/-- the last step where only what is new has turned -/
theorem post_of_pur {H : Type} {enc : TypeId × Value → H} {P : Program} {f : Func} {s : ChangeSpec} {apart fresh handsOn again : Bool} {W W' : World} {args : Array Value} {v : Value} {ds gs : List (DataW H)} {before pa pv : List MemPlace}
    (hW : DataW.Whole enc P f.params.toList s.vars apart W args.toList ds gs before) (hp : Pur W W')
    (hres : ∀ (b : Nat) (sp : Nat → Bool) (hd : Bool), DataW.TrodAll enc P W' b sp hd f.resultTypes.toList (v.resultList f.resultTypes.size) (s.fn H (ds ++ gs)).results [])
    (hargs : ∀ sp : Nat → Bool, (∀ p ∈ before, sp p.block = true) → DataW.TrodAll enc P W' 0 sp true f.params.toList args.toList (s.fn H (ds ++ gs)).args pa)
    (hvars : ∀ sp : Nat → Bool, (∀ p ∈ before, sp p.block = true) → DataW.TrodVars enc P W' sp s.vars (s.fn H (ds ++ gs)).vars pv)
    (hps : before = pa ++ pv)
    (hok : ∀ (j : Nat) (t : TypeId) (r : Value), f.resultTypes[j]? = some t → (v.resultList f.resultTypes.size)[j]? = some r → Value.okWide P W' .any 0 t r) :
    s.post enc P f apart fresh handsOn again W args v W' := by
  have old : ∀ p ∈ before, p.block < W.heap.size := fun p h => hW.lt p h
  have oldB : ∀ p ∈ before, (fun b => decide (b < W.heap.size)) p.block = true := fun p h => decide_eq_true (old p h)
  have keep : W.keptBut W' (· ∈ before) := Below.frame hp _
  refine ⟨ds, gs, before, [], pa, pv, hW, hres _ _ _, hargs _ oldB, hvars _ oldB, World.keptBut_mono (fun p h => ⟨h, .inr (by rw [hps, List.mem_append] at h; exact h)⟩) keep, fun _ => ?_⟩
  obtain ⟨_, _, _, _, _, hz, hn⟩ := hW
  refine ⟨hok, _, _, ([] ++ pa) ++ pv, ⟨[] ++ pa, pv, trodAll_append (hargs _ fun _ _ => rfl) (hres _ _ _), hvars _ fun _ _ => rfl, rfl, fun b off h => ?_, fun h => ?_⟩, fun p h _ => ?_⟩
  · have hin : MemPlace.cell b off ∈ before := by rw [hps]; simpa using h
    rw [Below.frozen hp (old _ hin)]
    exact hz b off hin
  · have h' := hn h
    rw [hps] at h'
    simpa using h'
  · rw [hps]; simpa using h
/-- a world for the witness: the settled one, the two tables holding what their initialisers lay -/
noncomputable def laidWorld (os : Os) : World := World.laidAll Tryd.prog os Rows.utfTurnsRow.laid
theorem wf_u16 {n : Int} (h : (Lit.int .u16 n).wf = true) : 0 ≤ n ∧ n < 65536 := by have := bounds_u16 h; omega
theorem wf_u8 {n : Int} (h : (Lit.int .u8 n).wf = true) : 0 ≤ n ∧ n < 256 := by have := bounds_u8 h; omega
theorem str_mk (s : ByteArray) : ∃ l : List UInt8, s = ⟨l.toArray⟩ ∧ s.data.toList = l := ⟨s.data.toList, by cases s; simp, rfl⟩
end Go.Proofs.YtipnlgcicdnhdaaDoor
