/- The witness's world of the cards of layer 4: the great tables laid, its shape seen in one pass. -/
import Derived.Test.YtciigfaojmpoiaaGreatDoorNmOpen
import Derived.Lay
import Derived.Deep.DeepWitnessRef
namespace Go.Proofs.YtciigfaojmpoiaaGreatDoor
open Go Go.RowKit Go.ChangeShapes Go.WideShapes Go.ChangeAt
set_option linter.all false
noncomputable def layWorld (os : Os) : World := World.laidAll Tryz.prog os Rows.numCutsUptoRow.laid
theorem layWorld_os (os : Os) : (layWorld os).os = os := World.laidAll_os _ _ _
set_option maxRecDepth 100000 in
theorem w_fits (os : Os) : (World.holding Tryz.prog os ⟨#[], #[], []⟩).layFits Tryz.prog Rows.numCutsUptoRow.laid [] = true := by kernel_rfl
set_option maxRecDepth 100000 in
theorem w_ifaces (os : Os) : (World.holding Tryz.prog os ⟨#[], #[], []⟩).layIfaces Tryz.prog Rows.numCutsUptoRow.laid (World.laidAll Tryz.prog os Rows.numCutsUptoRow.laid) = true := by kernel_rfl
theorem layWorld_met (os : Os) (args : Array Value) : laidMetH Tryz.prog Rows.numCutsUptoRow.laid ((layWorld os).forCall (fun _ _ => 0) ⟨#[], args, []⟩).memory := laidMet_laidAll args (w_fits os) (w_ifaces os)
set_option maxRecDepth 100000 in
theorem w_rest (os : Os) (args : Array Value) : ((((layWorld os).forCall (fun _ _ => 0) ⟨#[], args, []⟩).heap.toList.drop Tryz.prog.globals.size).take ((begin Tryz.prog (fun _ _ => 0) default).world.heap.size - Tryz.prog.globals.size) =
      (begin Tryz.prog (fun _ _ => 0) default).world.heap.toList.drop Tryz.prog.globals.size) := by kernel_rfl
set_option maxRecDepth 100000 in
theorem w_zip (os : Os) (args : Array Value) : ((layWorld os).forCall (fun _ _ => 0) ⟨#[], args, []⟩).variablesZipB Tryz.prog = true := by kernel_rfl
theorem w_shape (os : Os) (args : Array Value) : ((layWorld os).forCall (fun _ _ => 0) ⟨#[], args, []⟩).Shaped Tryz.prog := World.shaped_of_ZipB (w_zip os args) (w_rest os args)
section
variable {H : Type} {enc : TypeId × Value → H}
theorem witness_shape {C : Checked} {os : Os} {f : FuncId} {fn : Func} {s : OpenSpec} {conds : List PathCond} {apart : Bool} {laid : List (String × DataW Unit)} (modest : Bool) (w0 : World) (args : Array Value) (hos : w0.os = os)
    (hsh : (w0.forCall (fun _ _ => 0) ⟨#[], args, []⟩).Shaped C.prog)
    (hok : Input.okWideB C.prog (w0.forCall (fun _ _ => 0) ⟨#[], args, []⟩) f ⟨#[], args, []⟩ = true)
    (hrow : s.preRow enc C.prog fn conds apart laid (w0.forCall (fun _ _ => 0) ⟨#[], args, []⟩).memory args) :
    ∃ (w : World) (tape : Tape) (i : Input), w.os = os ∧ (w.forCall tape i).Shaped C.prog ∧ i.vars = [] ∧ Input.okWide C.prog (w.forCall tape i) .any w.heap.size f i ∧
      s.preRow enc C.prog fn conds apart laid (w.forCall tape i).memory i.args ∧ ({ modest := modest } : Assume).holds C.prog (lone (Frame.enter C.prog f i.args .normal) [] (w.forCall tape i)) := by
  let F : Stop.Interp := fun _ _ _ => 0
  refine ⟨w0, F.over fun _ _ => 0, ⟨#[], args, []⟩, hos, hsh, (Input.okWide_of_okWideB (base := 0) hok).1, (Input.okWide_of_okWideB hok).2, hrow, ?_⟩
  simp only [Assume.holds]
  exact ⟨by simp, by simp, fun _ => F.over_modest Modest.zero, by simp, by simp⟩
end
end Go.Proofs.YtciigfaojmpoiaaGreatDoor
