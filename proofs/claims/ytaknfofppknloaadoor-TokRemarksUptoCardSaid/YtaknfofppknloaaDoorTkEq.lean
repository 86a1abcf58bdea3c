/- Equality of places. -/
import Derived.Test.YtaknfofppknloaaDoorTk20
import Derived.Test.YtaknfofppknloaaDoorStructEq
namespace Go.Proofs.YtaknfofppknloaaDoor
open Go Go.RowKit
set_option linter.all false
namespace Tk
/-- a place, as whole numbers -/
structure P2 where
  l : Int
  c : Int
  deriving DecidableEq
theorem pos_under : Tryd.prog.underlying 30 = some (.struct (Tryd.prog.fieldsOf 30)) := by kernel_rfl
theorem pos_stood : Tryd.prog.stoodInHeld 30 = false := by kernel_rfl
theorem pos_guard : Tryd.prog.eqGuardType Tryd.prog.depth 30 = false := by kernel_rfl
theorem pos_fields : (Tryd.prog.fieldsOf 30).toList = [{ name := "Line", type := 3, offset := 0, embedded := false, tag := "", pkgPath := "", byteOffset := 0 }, { name := "Col", type := 3, offset := 1, embedded := false, tag := "", pkgPath := "", byteOffset := 8 }] := by kernel_rfl
/-- are two of them the same? -/
def posEq (a b : P2) : Bool := decide (a = b)
@[go_sem] theorem guard_pos (op : BinOp) (x y : Operand) (xs ys : Array Value) (w : World) : (eqGuard op 30 x y (.agg xs) (.agg ys)).run Tryd.prog w = .ok () w := run_eqGuard_agg w op _ x y xs ys pos_guard
theorem run_pos_in (l0 : Int) (c0 : Int) (l1 : Int) (c1 : Int) (w : World) : (Op.equalIn 10000 30 (.agg #[.int .i64 l0, .int .i64 c0]) (.agg #[.int .i64 l1, .int .i64 c1])).run Tryd.prog w = .ok (posEq (⟨l0, c0⟩ : P2) (⟨l1, c1⟩ : P2)) w := by
  rw [run_equalIn_struct w 9999 _ _ _ pos_under pos_stood, pos_fields]
  have e : posEq (⟨l0, c0⟩ : P2) (⟨l1, c1⟩ : P2) = (decide (l0 = l1) && (decide (c0 = c1) && true)) := by
    unfold posEq
    rw [Bool.eq_iff_iff]
    simp [and_assoc]
  rw [e]
  refine eqFields_cons (a := .int .i64 l0) (b := .int .i64 l1) (by decide) (by go_simp) (by go_simp) (eq_int_in 9998 3 .i64 .i64 _ _ Tryd.underlying3) ?_
  refine eqFields_cons (a := .int .i64 c0) (b := .int .i64 c1) (by decide) (by go_simp) (by go_simp) (eq_int_in 9998 3 .i64 .i64 _ _ Tryd.underlying3) ?_
  exact eqFields_nil _ _ _
@[go_sem high] theorem run_neq_pos (l0 : Int) (c0 : Int) (l1 : Int) (c1 : Int) (w : World) : (binOp .neq 30 (.agg #[.int .i64 l0, .int .i64 c0]) (.agg #[.int .i64 l1, .int .i64 c1])).run Tryd.prog w = .ok (.bool (!posEq (⟨l0, c0⟩ : P2) (⟨l1, c1⟩ : P2))) w := by
  rw [run_neq_struct, run_pos_in]
  rfl
@[go_sem high] theorem run_eql_pos (l0 : Int) (c0 : Int) (l1 : Int) (c1 : Int) (w : World) : (binOp .eql 30 (.agg #[.int .i64 l0, .int .i64 c0]) (.agg #[.int .i64 l1, .int .i64 c1])).run Tryd.prog w = .ok (.bool (posEq (⟨l0, c0⟩ : P2) (⟨l1, c1⟩ : P2))) w := by
  rw [run_eql_struct, run_pos_in]
  rfl
end Tk
end Go.Proofs.YtaknfofppknloaaDoor
