/- Equality of addresses. -/
import Derived.Test.YtjbfkalkcopapaaDoorRtPure
import Derived.Test.YtjbfkalkcopapaaDoorShelf
import Derived.Test.YtjbfkalkcopapaaDoorStructEq
namespace Go.Proofs.YtjbfkalkcopapaaDoor
open Go Go.RowKit
set_option linter.all false
theorem adr_under : Tryd.prog.underlying 24 = some (.struct (Tryd.prog.fieldsOf 24)) := by kernel_rfl
theorem adr_stood : Tryd.prog.stoodInHeld 24 = false := by kernel_rfl
theorem adr_guard : Tryd.prog.eqGuardType Tryd.prog.depth 24 = false := by kernel_rfl
theorem adr_fields : (Tryd.prog.fieldsOf 24).toList = [{ name := "Kind", type := 3, offset := 0, embedded := false, tag := "", pkgPath := "", byteOffset := 0 }, { name := "Id", type := 9, offset := 1, embedded := false, tag := "", pkgPath := "", byteOffset := 8 }, { name := "Host", type := 9, offset := 2, embedded := false, tag := "", pkgPath := "", byteOffset := 24 }, { name := "Port", type := 3, offset := 3, embedded := false, tag := "", pkgPath := "", byteOffset := 40 }, { name := "Path", type := 9, offset := 4, embedded := false, tag := "", pkgPath := "", byteOffset := 48 }] := by kernel_rfl
/-- are two of them the same? -/
def adrEq (a b : Adr) : Bool := decide (a = b)
@[go_sem] theorem guard_adr (op : BinOp) (x y : Operand) (xs ys : Array Value) (w : World) : (eqGuard op 24 x y (.agg xs) (.agg ys)).run Tryd.prog w = .ok () w := run_eqGuard_agg w op _ x y xs ys adr_guard
theorem run_adr_in (k0 : Int) (i0 : Bytes) (h0 : Bytes) (p0 : Int) (q0 : Bytes) (k1 : Int) (i1 : Bytes) (h1 : Bytes) (p1 : Int) (q1 : Bytes) (w : World) : (Op.equalIn 10000 24 (.agg #[.int .i64 k0, .string ⟨i0.toArray⟩, .string ⟨h0.toArray⟩, .int .i64 p0, .string ⟨q0.toArray⟩]) (.agg #[.int .i64 k1, .string ⟨i1.toArray⟩, .string ⟨h1.toArray⟩, .int .i64 p1, .string ⟨q1.toArray⟩])).run Tryd.prog w = .ok (adrEq (⟨k0, i0, h0, p0, q0⟩ : Adr) (⟨k1, i1, h1, p1, q1⟩ : Adr)) w := by
  rw [run_equalIn_struct w 9999 _ _ _ adr_under adr_stood, adr_fields]
  have e : adrEq (⟨k0, i0, h0, p0, q0⟩ : Adr) (⟨k1, i1, h1, p1, q1⟩ : Adr) = (decide (k0 = k1) && (decide (i0 = i1) && (decide (h0 = h1) && (decide (p0 = p1) && (decide (q0 = q1) && true))))) := by
    unfold adrEq
    rw [Bool.eq_iff_iff]
    simp [and_assoc]
  rw [e]
  refine eqFields_cons (a := .int .i64 k0) (b := .int .i64 k1) (by decide) (by go_simp) (by go_simp) (eq_int_in 9998 3 .i64 .i64 _ _ Tryd.underlying3) ?_
  refine eqFields_cons (a := .string ⟨i0.toArray⟩) (b := .string ⟨i1.toArray⟩) (by decide) (by go_simp) (by go_simp) (eq_str_in 9998 9 _ _ Tryd.underlying9) ?_
  refine eqFields_cons (a := .string ⟨h0.toArray⟩) (b := .string ⟨h1.toArray⟩) (by decide) (by go_simp) (by go_simp) (eq_str_in 9998 9 _ _ Tryd.underlying9) ?_
  refine eqFields_cons (a := .int .i64 p0) (b := .int .i64 p1) (by decide) (by go_simp) (by go_simp) (eq_int_in 9998 3 .i64 .i64 _ _ Tryd.underlying3) ?_
  refine eqFields_cons (a := .string ⟨q0.toArray⟩) (b := .string ⟨q1.toArray⟩) (by decide) (by go_simp) (by go_simp) (eq_str_in 9998 9 _ _ Tryd.underlying9) ?_
  exact eqFields_nil _ _ _
@[go_sem high] theorem run_neq_adr (k0 : Int) (i0 : Bytes) (h0 : Bytes) (p0 : Int) (q0 : Bytes) (k1 : Int) (i1 : Bytes) (h1 : Bytes) (p1 : Int) (q1 : Bytes) (w : World) : (binOp .neq 24 (.agg #[.int .i64 k0, .string ⟨i0.toArray⟩, .string ⟨h0.toArray⟩, .int .i64 p0, .string ⟨q0.toArray⟩]) (.agg #[.int .i64 k1, .string ⟨i1.toArray⟩, .string ⟨h1.toArray⟩, .int .i64 p1, .string ⟨q1.toArray⟩])).run Tryd.prog w = .ok (.bool (!adrEq (⟨k0, i0, h0, p0, q0⟩ : Adr) (⟨k1, i1, h1, p1, q1⟩ : Adr))) w := by
  rw [run_neq_struct, run_adr_in]
  rfl
@[go_sem high] theorem run_eql_adr (k0 : Int) (i0 : Bytes) (h0 : Bytes) (p0 : Int) (q0 : Bytes) (k1 : Int) (i1 : Bytes) (h1 : Bytes) (p1 : Int) (q1 : Bytes) (w : World) : (binOp .eql 24 (.agg #[.int .i64 k0, .string ⟨i0.toArray⟩, .string ⟨h0.toArray⟩, .int .i64 p0, .string ⟨q0.toArray⟩]) (.agg #[.int .i64 k1, .string ⟨i1.toArray⟩, .string ⟨h1.toArray⟩, .int .i64 p1, .string ⟨q1.toArray⟩])).run Tryd.prog w = .ok (.bool (adrEq (⟨k0, i0, h0, p0, q0⟩ : Adr) (⟨k1, i1, h1, p1, q1⟩ : Adr))) w := by
  rw [run_eql_struct, run_adr_in]
  rfl
end Go.Proofs.YtjbfkalkcopapaaDoor
