/- Equality of requests and of responses. -/
import Derived.Test.YtlgdkaeiadhiaaaGreatDoorHtPure
import Derived.Test.YtlgdkaeiadhiaaaGreatDoorShelf
import Derived.Test.YtlgdkaeiadhiaaaGreatDoorStructEq
namespace Go.Proofs.YtlgdkaeiadhiaaaGreatDoor
open Go Go.RowKit
set_option linter.all false
theorem req_under : Tryz.prog.underlying 24 = some (.struct (Tryz.prog.fieldsOf 24)) := by kernel_rfl
theorem req_stood : Tryz.prog.stoodInHeld 24 = false := by kernel_rfl
theorem req_guard : Tryz.prog.eqGuardType Tryz.prog.depth 24 = false := by kernel_rfl
theorem req_fields : (Tryz.prog.fieldsOf 24).toList = [{ name := "Method", type := 9, offset := 0, embedded := false, tag := "", pkgPath := "", byteOffset := 0 }, { name := "Target", type := 9, offset := 1, embedded := false, tag := "", pkgPath := "", byteOffset := 16 }, { name := "Host", type := 9, offset := 2, embedded := false, tag := "", pkgPath := "", byteOffset := 32 }, { name := "Type", type := 9, offset := 3, embedded := false, tag := "", pkgPath := "", byteOffset := 48 }, { name := "Body", type := 9, offset := 4, embedded := false, tag := "", pkgPath := "", byteOffset := 64 }] := by kernel_rfl
/-- are two of them the same? -/
def reqEq (a b : Req) : Bool := decide (a = b)
@[go_sem] theorem guard_req (op : BinOp) (x y : Operand) (xs ys : Array Value) (w : World) : (eqGuard op 24 x y (.agg xs) (.agg ys)).run Tryz.prog w = .ok () w := run_eqGuard_agg w op _ x y xs ys req_guard
theorem run_req_in (m0 : Bytes) (t0 : Bytes) (h0 : Bytes) (y0 : Bytes) (b0 : Bytes) (m1 : Bytes) (t1 : Bytes) (h1 : Bytes) (y1 : Bytes) (b1 : Bytes) (w : World) : (Op.equalIn 10000 24 (.agg #[.string ⟨m0.toArray⟩, .string ⟨t0.toArray⟩, .string ⟨h0.toArray⟩, .string ⟨y0.toArray⟩, .string ⟨b0.toArray⟩]) (.agg #[.string ⟨m1.toArray⟩, .string ⟨t1.toArray⟩, .string ⟨h1.toArray⟩, .string ⟨y1.toArray⟩, .string ⟨b1.toArray⟩])).run Tryz.prog w = .ok (reqEq (⟨m0, t0, h0, y0, b0⟩ : Req) (⟨m1, t1, h1, y1, b1⟩ : Req)) w := by
  rw [run_equalIn_struct w 9999 _ _ _ req_under req_stood, req_fields]
  have e : reqEq (⟨m0, t0, h0, y0, b0⟩ : Req) (⟨m1, t1, h1, y1, b1⟩ : Req) = (decide (m0 = m1) && (decide (t0 = t1) && (decide (h0 = h1) && (decide (y0 = y1) && (decide (b0 = b1) && true))))) := by
    unfold reqEq
    rw [Bool.eq_iff_iff]
    simp [and_assoc]
  rw [e]
  refine eqFields_cons (a := .string ⟨m0.toArray⟩) (b := .string ⟨m1.toArray⟩) (by decide) (by go_simp) (by go_simp) (eq_str_in 9998 9 _ _ Tryz.underlying9) ?_
  refine eqFields_cons (a := .string ⟨t0.toArray⟩) (b := .string ⟨t1.toArray⟩) (by decide) (by go_simp) (by go_simp) (eq_str_in 9998 9 _ _ Tryz.underlying9) ?_
  refine eqFields_cons (a := .string ⟨h0.toArray⟩) (b := .string ⟨h1.toArray⟩) (by decide) (by go_simp) (by go_simp) (eq_str_in 9998 9 _ _ Tryz.underlying9) ?_
  refine eqFields_cons (a := .string ⟨y0.toArray⟩) (b := .string ⟨y1.toArray⟩) (by decide) (by go_simp) (by go_simp) (eq_str_in 9998 9 _ _ Tryz.underlying9) ?_
  refine eqFields_cons (a := .string ⟨b0.toArray⟩) (b := .string ⟨b1.toArray⟩) (by decide) (by go_simp) (by go_simp) (eq_str_in 9998 9 _ _ Tryz.underlying9) ?_
  exact eqFields_nil _ _ _
@[go_sem high] theorem run_neq_req (m0 : Bytes) (t0 : Bytes) (h0 : Bytes) (y0 : Bytes) (b0 : Bytes) (m1 : Bytes) (t1 : Bytes) (h1 : Bytes) (y1 : Bytes) (b1 : Bytes) (w : World) : (binOp .neq 24 (.agg #[.string ⟨m0.toArray⟩, .string ⟨t0.toArray⟩, .string ⟨h0.toArray⟩, .string ⟨y0.toArray⟩, .string ⟨b0.toArray⟩]) (.agg #[.string ⟨m1.toArray⟩, .string ⟨t1.toArray⟩, .string ⟨h1.toArray⟩, .string ⟨y1.toArray⟩, .string ⟨b1.toArray⟩])).run Tryz.prog w = .ok (.bool (!reqEq (⟨m0, t0, h0, y0, b0⟩ : Req) (⟨m1, t1, h1, y1, b1⟩ : Req))) w := by
  rw [run_neq_struct, run_req_in]
  rfl
@[go_sem high] theorem run_eql_req (m0 : Bytes) (t0 : Bytes) (h0 : Bytes) (y0 : Bytes) (b0 : Bytes) (m1 : Bytes) (t1 : Bytes) (h1 : Bytes) (y1 : Bytes) (b1 : Bytes) (w : World) : (binOp .eql 24 (.agg #[.string ⟨m0.toArray⟩, .string ⟨t0.toArray⟩, .string ⟨h0.toArray⟩, .string ⟨y0.toArray⟩, .string ⟨b0.toArray⟩]) (.agg #[.string ⟨m1.toArray⟩, .string ⟨t1.toArray⟩, .string ⟨h1.toArray⟩, .string ⟨y1.toArray⟩, .string ⟨b1.toArray⟩])).run Tryz.prog w = .ok (.bool (reqEq (⟨m0, t0, h0, y0, b0⟩ : Req) (⟨m1, t1, h1, y1, b1⟩ : Req))) w := by
  rw [run_eql_struct, run_req_in]
  rfl
theorem resp_under : Tryz.prog.underlying 31 = some (.struct (Tryz.prog.fieldsOf 31)) := by kernel_rfl
theorem resp_stood : Tryz.prog.stoodInHeld 31 = false := by kernel_rfl
theorem resp_guard : Tryz.prog.eqGuardType Tryz.prog.depth 31 = false := by kernel_rfl
theorem resp_fields : (Tryz.prog.fieldsOf 31).toList = [{ name := "Status", type := 3, offset := 0, embedded := false, tag := "", pkgPath := "", byteOffset := 0 }, { name := "Body", type := 9, offset := 1, embedded := false, tag := "", pkgPath := "", byteOffset := 8 }] := by kernel_rfl
/-- are two of them the same? -/
def respEq (a b : Resp) : Bool := decide (a = b)
@[go_sem] theorem guard_resp (op : BinOp) (x y : Operand) (xs ys : Array Value) (w : World) : (eqGuard op 31 x y (.agg xs) (.agg ys)).run Tryz.prog w = .ok () w := run_eqGuard_agg w op _ x y xs ys resp_guard
theorem run_resp_in (s0 : Int) (b0 : Bytes) (s1 : Int) (b1 : Bytes) (w : World) : (Op.equalIn 10000 31 (.agg #[.int .i64 s0, .string ⟨b0.toArray⟩]) (.agg #[.int .i64 s1, .string ⟨b1.toArray⟩])).run Tryz.prog w = .ok (respEq (⟨s0, b0⟩ : Resp) (⟨s1, b1⟩ : Resp)) w := by
  rw [run_equalIn_struct w 9999 _ _ _ resp_under resp_stood, resp_fields]
  have e : respEq (⟨s0, b0⟩ : Resp) (⟨s1, b1⟩ : Resp) = (decide (s0 = s1) && (decide (b0 = b1) && true)) := by
    unfold respEq
    rw [Bool.eq_iff_iff]
    simp [and_assoc]
  rw [e]
  refine eqFields_cons (a := .int .i64 s0) (b := .int .i64 s1) (by decide) (by go_simp) (by go_simp) (eq_int_in 9998 3 .i64 .i64 _ _ Tryz.underlying3) ?_
  refine eqFields_cons (a := .string ⟨b0.toArray⟩) (b := .string ⟨b1.toArray⟩) (by decide) (by go_simp) (by go_simp) (eq_str_in 9998 9 _ _ Tryz.underlying9) ?_
  exact eqFields_nil _ _ _
@[go_sem high] theorem run_neq_resp (s0 : Int) (b0 : Bytes) (s1 : Int) (b1 : Bytes) (w : World) : (binOp .neq 31 (.agg #[.int .i64 s0, .string ⟨b0.toArray⟩]) (.agg #[.int .i64 s1, .string ⟨b1.toArray⟩])).run Tryz.prog w = .ok (.bool (!respEq (⟨s0, b0⟩ : Resp) (⟨s1, b1⟩ : Resp))) w := by
  rw [run_neq_struct, run_resp_in]
  rfl
@[go_sem high] theorem run_eql_resp (s0 : Int) (b0 : Bytes) (s1 : Int) (b1 : Bytes) (w : World) : (binOp .eql 31 (.agg #[.int .i64 s0, .string ⟨b0.toArray⟩]) (.agg #[.int .i64 s1, .string ⟨b1.toArray⟩])).run Tryz.prog w = .ok (.bool (respEq (⟨s0, b0⟩ : Resp) (⟨s1, b1⟩ : Resp))) w := by
  rw [run_eql_struct, run_resp_in]
  rfl
def reqV (r : Req) : Value := .agg #[.string ⟨r.method.toArray⟩, .string ⟨r.target.toArray⟩, .string ⟨r.host.toArray⟩, .string ⟨r.type.toArray⟩, .string ⟨r.body.toArray⟩]
def respV (r : Resp) : Value := .agg #[.int .i64 r.status, .string ⟨r.body.toArray⟩]
end Go.Proofs.YtlgdkaeiadhiaaaGreatDoor
