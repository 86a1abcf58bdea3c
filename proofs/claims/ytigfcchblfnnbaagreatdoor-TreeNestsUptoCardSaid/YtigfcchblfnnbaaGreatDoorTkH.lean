/- errors.As at a variable of the kind api.Errno, and the error of that kind: it is found. After the kit's worked text ToyasAs. errors.As at the variables of api.Tell: a fault is found as a fault; what it comes of is found behind it. After the kit's worked texts ToyasAs and Nf8IsFacts. Layer 2: Tokens, with its recover. api.Tell: which number an error comes of, and its place. Equality of structs, field by field, by value. Equality of places. Tokens as they are read; the document's Same, at what is the same. The document's Same, at lists that are the same. Tokens, Tell and Same as the laws call them; awake. -/
import Derived.Test.YtigfcchblfnnbaaGreatDoorProg
import Derived.WalkKit
import Derived.LaidEql
import Derived.Stop.Asserts
import Derived.RowKitTokens
import Derived.Test.YtigfcchblfnnbaaGreatDoorTkA
import Derived.Test.YtigfcchblfnnbaaGreatDoorTk18
import Derived.Tactics
import Derived.Tactics2
import Derived.Defers
import Derived.Recover
import Derived.Test.YtigfcchblfnnbaaGreatDoorBase
import Derived.Laws.StructEq
import Derived.Test.YtigfcchblfnnbaaGreatDoorTpB
namespace Go.Proofs.YtigfcchblfnnbaaGreatDoor
open Go Go.RowKit Go.Extern.Stop Go.Stop Go.Extern
set_option linter.all false
theorem globs_size : Tryz.prog.globals.size = 12 := by kernel_rfl
theorem valueOfP (t : Addr) (w : World) : (ReflectliteValue.unpack (.iface 72 (.pointer (some t)))).run Tryz.prog w
    = .ok (.agg #[.pointer (some ⟨12, 72, none⟩), .pointer (some ⟨w.heap.size, 0, none⟩), .int .u64 150]) (w.alloc (.cells #[.pointer (some t)] 72)) := by kernel_rfl
theorem typeP (a : Addr) (w : World) : (ReflectliteValue.methodAny (ReflectliteValue.valueError "reflectlite.Value.Type" 0) (fun t _ _ _ => ReflectliteType.toType t) #[.agg #[.pointer (some ⟨12, 72, none⟩), .pointer (some a), .int .u64 150]]).run Tryz.prog w
    = .ok (.iface 134 (.agg #[.pointer (some ⟨12, 72, none⟩)])) w := by kernel_rfl
theorem methodKind (h : Value) (w : World) : (Go.method 435 134 (.agg #[h]) "Kind").run Tryz.prog w = .ok (212, h) w := by kernel_rfl
theorem kindP (w : World) : ((ReflectliteType.abiMethod fun t => (fun a : Nat => Value.int IntKind.u8 (a : Int)) <$> Rtype.kind t) #[.pointer (some ⟨12, 72, none⟩)]).run Tryz.prog w = .ok (.int .u8 22) w := by kernel_rfl
theorem kindE (w : World) : ((ReflectliteType.abiMethod fun t => (fun a : Nat => Value.int IntKind.u8 (a : Int)) <$> Rtype.kind t) #[.pointer (some ⟨12, 42, none⟩)]).run Tryz.prog w = .ok (.int .u8 2) w := by kernel_rfl
theorem rlm (z : Sem Value) (f : TypeId → Addr → Nat → Nat → Sem Value) (v : Value) :
    ReflectliteValue.method z f #[v] = (do match ← ReflectliteValue.parts v with | none => z | some (t, a, fl) => f t a fl (fl % 32)) := rfl
theorem partsP (a : Addr) (w : World) : (ReflectliteValue.parts (.agg #[.pointer (some ⟨12, 72, none⟩), .pointer (some a), .int .u64 150])).run Tryz.prog w = .ok (some (72, a, 150)) w := by kernel_rfl
theorem isNilP (a p : Addr) (W : World) (ha : W.cell? a = some (.pointer (some p))) :
    (ReflectliteValue.method (ReflectliteValue.valueError "reflectlite.Value.IsNil" 0) ReflectliteValue.isNil #[.agg #[.pointer (some ⟨12, 72, none⟩), .pointer (some a), .int .u64 150]]).run Tryz.prog W = .ok (.bool false) W := by
  rw [rlm]
  simp only [Sem.run_bind, partsP, Result.andThen]
  simp [ReflectliteValue.isNil, loadVar, isAgg, underlying, Tryz.underlying72, ha, Result.andThen]
theorem methodElem (h : Value) (w : World) : (Go.method 435 134 (.agg #[h]) "Elem").run Tryz.prog w = .ok (225, .agg #[h]) w := by kernel_rfl
theorem methodImplements (h : Value) (w : World) : (Go.method 435 134 (.agg #[h]) "Implements").run Tryz.prog w = .ok (226, .agg #[h]) w := by kernel_rfl
theorem methodAssignableTo (h : Value) (w : World) : (Go.method 435 134 (.agg #[h]) "AssignableTo").run Tryz.prog w = .ok (223, .agg #[h]) w := by kernel_rfl
theorem elemP (w : World) : (ReflectliteType.method ReflectliteType.elem #[.agg #[.pointer (some ⟨12, 72, none⟩)]]).run Tryz.prog w = .ok (.iface 134 (.agg #[.pointer (some ⟨12, 42, none⟩)])) w := by kernel_rfl
theorem implementsE (w : World) : (ReflectliteType.relation "Implements" ReflectliteType.implements_ #[.agg #[.pointer (some ⟨12, 42, none⟩)], .iface 134 (.agg #[.pointer (some ⟨12, 31, none⟩)])]).run Tryz.prog w = .ok (.bool true) w := by kernel_rfl
theorem typeOfE (v : Value) (w : World) : (ReflectliteType.typeOf #[.iface 42 v]).run Tryz.prog w = .ok (.iface 134 (.agg #[.pointer (some ⟨12, 42, none⟩)])) w := by kernel_rfl
theorem assignableE (w : World) : (ReflectliteType.relation "AssignableTo" ReflectliteType.assignableTo #[.agg #[.pointer (some ⟨12, 42, none⟩)], .iface 134 (.agg #[.pointer (some ⟨12, 42, none⟩)])]).run Tryz.prog w = .ok (.bool true) w := by kernel_rfl
theorem valueOfE (n : Int) (w : World) : (ReflectliteValue.unpack (.iface 42 (.int .i64 n))).run Tryz.prog w
    = .ok (.agg #[.pointer (some ⟨12, 42, none⟩), .pointer (some ⟨w.heap.size, 0, none⟩), .int .u64 130]) (w.alloc (.cells #[.int .i64 n] 42)) := by kernel_rfl
theorem elemOfP (w : World) : (Rtype.elem? 72).run Tryz.prog w = .ok (some 42) w := by kernel_rfl
theorem mkE (p : Addr) (w : World) : (ReflectliteValue.mk 42 p ReflectliteValue.flagAddr).run Tryz.prog w = .ok (.agg #[.pointer (some ⟨12, 42, none⟩), .pointer (some p), .int .u64 386]) w := by kernel_rfl
theorem elemVP (a p : Addr) (W : World) (ha : W.cell? a = some (.pointer (some p))) :
    (ReflectliteValue.method (ReflectliteValue.valueError "reflectlite.Value.Elem" 0) ReflectliteValue.elem #[.agg #[.pointer (some ⟨12, 72, none⟩), .pointer (some a), .int .u64 150]]).run Tryz.prog W
      = .ok (.agg #[.pointer (some ⟨12, 42, none⟩), .pointer (some p), .int .u64 386]) W := by
  rw [rlm]
  simp only [Sem.run_bind, partsP, Result.andThen]
  simp [ReflectliteValue.elem, loadVar, isAgg, underlying, Tryz.underlying72, ha, Result.andThen, elemOfP, mkE]
theorem rls (v x : Value) : ReflectliteValue.set #[v, x] = (do
    let (some (dst, a, fl), some (src, b, _)) := (← ReflectliteValue.parts v, ← ReflectliteValue.parts x)
      | unsupported (.noEntry "extern/(internal/reflectlite.Value).Set.zeroValue")
    if fl / ReflectliteValue.flagAddr % 2 == 0 then unsupported (.noEntry "extern/(internal/reflectlite.Value).Set.unaddressable")
    let val ← loadVar src b
    if ← Rtype.directlyAssignable dst src then storeVar dst a val
    else if ← Rtype.implements dst src then
      if (← Rtype.kind src) == 20 then
        match val with
        | .nilIface => unsupported (.noEntry "extern/reflectlite: a nil value of one interface type handed on as a value of another")
        | _ => storeVar dst a val
      else storeVar dst a (.iface src val)
    else panicString ("reflectlite.Set: value of type " ++ (← Rtype.spelt src) ++ " is not assignable to type " ++ (← Rtype.spelt dst))
    pure (.tuple #[])) := rfl
theorem partsEa (a : Addr) (w : World) : (ReflectliteValue.parts (.agg #[.pointer (some ⟨12, 42, none⟩), .pointer (some a), .int .u64 386])).run Tryz.prog w = .ok (some (42, a, 386)) w := by kernel_rfl
theorem partsE (a : Addr) (w : World) : (ReflectliteValue.parts (.agg #[.pointer (some ⟨12, 42, none⟩), .pointer (some a), .int .u64 130])).run Tryz.prog w = .ok (some (42, a, 130)) w := by kernel_rfl
theorem directE (w : World) : (Rtype.directlyAssignable 42 42).run Tryz.prog w = .ok true w := by kernel_rfl
theorem setE (ta b : Addr) (n : Int) (old : Value) (W : World) (hb : W.cell? b = some (.int .i64 n)) (ht : W.cell? ta = some old) (hf : W.frozen? ta = false) :
    (ReflectliteValue.set #[.agg #[.pointer (some ⟨12, 42, none⟩), .pointer (some ta), .int .u64 386], .agg #[.pointer (some ⟨12, 42, none⟩), .pointer (some b), .int .u64 130]]).run Tryz.prog W
      = .ok (.tuple #[]) (W.setCell ta (.int .i64 n)) := by
  rw [rls]
  simp only [Sem.run_bind, partsEa, partsE, Result.andThen]
  simp [ReflectliteValue.flagAddr, loadVar, isAgg, underlying, Tryz.underlying42, hb, Result.andThen, directE, storeVar, Value.cells, storeCells, Addr.add]
  rw [run_store Tryz.prog W ta _ _ (by rfl)]
  simp [ht, hf]
end Go.Proofs.YtigfcchblfnnbaaGreatDoor
namespace Go.Proofs.YtigfcchblfnnbaaGreatDoor
open Go Go.RowKit Go.Extern.Stop Go.Stop Go.Extern
set_option linter.all false
theorem valueOfPF (t : Addr) (w : World) : (ReflectliteValue.unpack (.iface 69 (.pointer (some t)))).run Tryz.prog w
    = .ok (.agg #[.pointer (some ⟨12, 69, none⟩), .pointer (some ⟨w.heap.size, 0, none⟩), .int .u64 150]) (w.alloc (.cells #[.pointer (some t)] 69)) := by kernel_rfl
theorem typePF (a : Addr) (w : World) : (ReflectliteValue.methodAny (ReflectliteValue.valueError "reflectlite.Value.Type" 0) (fun t _ _ _ => ReflectliteType.toType t) #[.agg #[.pointer (some ⟨12, 69, none⟩), .pointer (some a), .int .u64 150]]).run Tryz.prog w
    = .ok (.iface 134 (.agg #[.pointer (some ⟨12, 69, none⟩)])) w := by kernel_rfl
theorem kindPF (w : World) : ((ReflectliteType.abiMethod fun t => (fun a : Nat => Value.int IntKind.u8 (a : Int)) <$> Rtype.kind t) #[.pointer (some ⟨12, 69, none⟩)]).run Tryz.prog w = .ok (.int .u8 22) w := by kernel_rfl
theorem kindEF (w : World) : ((ReflectliteType.abiMethod fun t => (fun a : Nat => Value.int IntKind.u8 (a : Int)) <$> Rtype.kind t) #[.pointer (some ⟨12, 67, none⟩)]).run Tryz.prog w = .ok (.int .u8 22) w := by kernel_rfl
theorem partsPF (a : Addr) (w : World) : (ReflectliteValue.parts (.agg #[.pointer (some ⟨12, 69, none⟩), .pointer (some a), .int .u64 150])).run Tryz.prog w = .ok (some (69, a, 150)) w := by kernel_rfl
theorem isNilPF (a p : Addr) (W : World) (ha : W.cell? a = some (.pointer (some p))) :
    (ReflectliteValue.method (ReflectliteValue.valueError "reflectlite.Value.IsNil" 0) ReflectliteValue.isNil #[.agg #[.pointer (some ⟨12, 69, none⟩), .pointer (some a), .int .u64 150]]).run Tryz.prog W = .ok (.bool false) W := by
  rw [rlm]
  simp only [Sem.run_bind, partsPF, Result.andThen]
  simp [ReflectliteValue.isNil, loadVar, isAgg, underlying, Tryz.underlying69, ha, Result.andThen]
theorem elemPF (w : World) : (ReflectliteType.method ReflectliteType.elem #[.agg #[.pointer (some ⟨12, 69, none⟩)]]).run Tryz.prog w = .ok (.iface 134 (.agg #[.pointer (some ⟨12, 67, none⟩)])) w := by kernel_rfl
theorem implementsEF (w : World) : (ReflectliteType.relation "Implements" ReflectliteType.implements_ #[.agg #[.pointer (some ⟨12, 67, none⟩)], .iface 134 (.agg #[.pointer (some ⟨12, 31, none⟩)])]).run Tryz.prog w = .ok (.bool true) w := by kernel_rfl
theorem typeOfEF (v : Value) (w : World) : (ReflectliteType.typeOf #[.iface 67 v]).run Tryz.prog w = .ok (.iface 134 (.agg #[.pointer (some ⟨12, 67, none⟩)])) w := by kernel_rfl
theorem assignableEF (w : World) : (ReflectliteType.relation "AssignableTo" ReflectliteType.assignableTo #[.agg #[.pointer (some ⟨12, 67, none⟩)], .iface 134 (.agg #[.pointer (some ⟨12, 67, none⟩)])]).run Tryz.prog w = .ok (.bool true) w := by kernel_rfl
theorem valueOfEF (n : Addr) (w : World) : (ReflectliteValue.unpack (.iface 67 (.pointer (some n)))).run Tryz.prog w
    = .ok (.agg #[.pointer (some ⟨12, 67, none⟩), .pointer (some ⟨w.heap.size, 0, none⟩), .int .u64 150]) (w.alloc (.cells #[.pointer (some n)] 67)) := by kernel_rfl
theorem elemOfPF (w : World) : (Rtype.elem? 69).run Tryz.prog w = .ok (some 67) w := by kernel_rfl
theorem mkEF (p : Addr) (w : World) : (ReflectliteValue.mk 67 p ReflectliteValue.flagAddr).run Tryz.prog w = .ok (.agg #[.pointer (some ⟨12, 67, none⟩), .pointer (some p), .int .u64 406]) w := by kernel_rfl
theorem elemVPF (a p : Addr) (W : World) (ha : W.cell? a = some (.pointer (some p))) :
    (ReflectliteValue.method (ReflectliteValue.valueError "reflectlite.Value.Elem" 0) ReflectliteValue.elem #[.agg #[.pointer (some ⟨12, 69, none⟩), .pointer (some a), .int .u64 150]]).run Tryz.prog W
      = .ok (.agg #[.pointer (some ⟨12, 67, none⟩), .pointer (some p), .int .u64 406]) W := by
  rw [rlm]
  simp only [Sem.run_bind, partsPF, Result.andThen]
  simp [ReflectliteValue.elem, loadVar, isAgg, underlying, Tryz.underlying69, ha, Result.andThen, elemOfPF, mkEF]
theorem partsEaF (a : Addr) (w : World) : (ReflectliteValue.parts (.agg #[.pointer (some ⟨12, 67, none⟩), .pointer (some a), .int .u64 406])).run Tryz.prog w = .ok (some (67, a, 406)) w := by kernel_rfl
theorem partsEF (a : Addr) (w : World) : (ReflectliteValue.parts (.agg #[.pointer (some ⟨12, 67, none⟩), .pointer (some a), .int .u64 150])).run Tryz.prog w = .ok (some (67, a, 150)) w := by kernel_rfl
theorem directEF (w : World) : (Rtype.directlyAssignable 67 67).run Tryz.prog w = .ok true w := by kernel_rfl
theorem setEF (ta b : Addr) (n : Addr) (old : Value) (W : World) (hb : W.cell? b = some (.pointer (some n))) (ht : W.cell? ta = some old) (hf : W.frozen? ta = false) :
    (ReflectliteValue.set #[.agg #[.pointer (some ⟨12, 67, none⟩), .pointer (some ta), .int .u64 406], .agg #[.pointer (some ⟨12, 67, none⟩), .pointer (some b), .int .u64 150]]).run Tryz.prog W
      = .ok (.tuple #[]) (W.setCell ta (.pointer (some n))) := by
  rw [rls]
  simp only [Sem.run_bind, partsEaF, partsEF, Result.andThen]
  simp [ReflectliteValue.flagAddr, loadVar, isAgg, underlying, Tryz.underlying67, hb, Result.andThen, directEF, storeVar, Value.cells, storeCells, Addr.add]
  rw [run_store Tryz.prog W ta _ _ (by rfl)]
  simp [ht, hf]
set_option maxRecDepth 100000 in
set_option maxHeartbeats 4000000 in
theorem as_hitF (n : Addr) (t : Addr) (old : Value) (w : World) (hg : w.cell? ⟨0, 0, none⟩ = some (.iface 134 (.agg #[.pointer (some ⟨12, 31, none⟩)]))) (ht0 : w.cell? t = some old) (hf0 : w.frozen? t = false) :
    Calls Tryz.prog 21 #[.iface 67 (.pointer (some n)), .iface 69 (.pointer (some t))] w fun ev w' => ev = .returned (.bool true) ∧ ∃ o1 o2 o3 o4, w' = ((((w.alloc o1).alloc o2).alloc o3).alloc o4).setCell t (.pointer (some n)) := by
  have h6 := @run_callFunc_extern Tryz.prog 32 _ (fun args => ReflectliteValue.unpack (args.getD 0 (.tuple #[]))) Tryz.func32 (by kernel_rfl) (by kernel_rfl) (by kernel_rfl) (by kernel_rfl)
  have h7 := @run_callFunc_extern Tryz.prog 33 _ (ReflectliteValue.methodAny (ReflectliteValue.valueError "reflectlite.Value.Type" 0) (fun t _ _ _ => ReflectliteType.toType t)) Tryz.func33 (by kernel_rfl) (by kernel_rfl) (by kernel_rfl) (by kernel_rfl)
  have h8 := @run_callFunc_extern Tryz.prog 34 _ (ReflectliteValue.method (ReflectliteValue.valueError "reflectlite.Value.IsNil" 0) ReflectliteValue.isNil) Tryz.func34 (by kernel_rfl) (by kernel_rfl) (by kernel_rfl) (by kernel_rfl)
  have h27 := @run_callFunc_extern Tryz.prog 212 _ (ReflectliteType.abiMethod fun t => do pure (.int .u8 (← Rtype.kind t))) Tryz.func212 (by kernel_rfl) (by kernel_rfl) (by kernel_rfl) (by kernel_rfl)
  have h37 := @run_callFunc_extern Tryz.prog 225 _ (ReflectliteType.method ReflectliteType.elem) Tryz.func225 (by kernel_rfl) (by kernel_rfl) (by kernel_rfl) (by kernel_rfl)
  have h38 := @run_callFunc_extern Tryz.prog 226 _ (ReflectliteType.relation "Implements" ReflectliteType.implements_) Tryz.func226 (by kernel_rfl) (by kernel_rfl) (by kernel_rfl) (by kernel_rfl)
  have h10 := @run_callFunc_extern Tryz.prog 65 _ ReflectliteType.typeOf Tryz.func65 (by kernel_rfl) (by kernel_rfl) (by kernel_rfl) (by kernel_rfl)
  have h35 := @run_callFunc_extern Tryz.prog 223 _ (ReflectliteType.relation "AssignableTo" ReflectliteType.assignableTo) Tryz.func223 (by kernel_rfl) (by kernel_rfl) (by kernel_rfl) (by kernel_rfl)
  have h11 := @run_callFunc_extern Tryz.prog 66 _ (ReflectliteValue.method (ReflectliteValue.valueError "reflectlite.Value.Elem" 0) ReflectliteValue.elem) Tryz.func66 (by kernel_rfl) (by kernel_rfl) (by kernel_rfl) (by kernel_rfl)
  have h12 := @run_callFunc_extern Tryz.prog 67 _ ReflectliteValue.set Tryz.func67 (by kernel_rfl) (by kernel_rfl) (by kernel_rfl) (by kernel_rfl)
  have tO := typeOfEF
  have mA := methodAssignableTo
  have aE := assignableEF
  have vE := valueOfEF
  have f6 := valueOfPF
  have f7 := typePF
  have mK := methodKind
  have mE := methodElem
  have mI := methodImplements
  have kP := kindPF
  have kE := kindEF
  have eP := elemPF
  have iE := implementsEF
  have n8 := isNilPF ⟨w.heap.size, 0, none⟩ t ((w.alloc (.cells #[.pointer (some t)] 69)).alloc (.cells #[.pointer (some ⟨12, 69, none⟩), .pointer (some ⟨w.heap.size, 0, none⟩), .int .u64 150] 94)) (by simp)
  have hlt : 0 < w.heap.size := World.block_lt_of_cell? w _ hg
  have hg2 : ((w.alloc (.cells #[.pointer (some t)] 69)).alloc (.cells #[.pointer (some ⟨12, 69, none⟩), .pointer (some ⟨w.heap.size, 0, none⟩), .int .u64 150] 94)).cell? ⟨0, 0, none⟩ = some (.iface 134 (.agg #[.pointer (some ⟨12, 31, none⟩)])) := by
    rw [World.cell?_alloc_lt _ _ ⟨0, 0, none⟩ (by first | (simp; done) | (simp; omega)), World.cell?_alloc_lt _ _ ⟨0, 0, none⟩ hlt]; exact hg
  have htl : t.block < w.heap.size := World.block_lt_of_cell? w _ ht0
  have el := elemVPF ⟨w.heap.size, 0, none⟩ t (((w.alloc (.cells #[.pointer (some t)] 69)).alloc (.cells #[.pointer (some ⟨12, 69, none⟩), .pointer (some ⟨w.heap.size, 0, none⟩), .int .u64 150] 94)).alloc (.cells #[.pointer (some ⟨12, 69, none⟩), .pointer (some ⟨w.heap.size, 0, none⟩), .int .u64 150] 94)) (by rw [World.cell?_alloc_lt _ _ ⟨w.heap.size, 0, none⟩ (by simp; omega)]; simp)
  have st := setEF t ⟨w.heap.size + 1 + 1 + 1, 0, none⟩ n old ((((w.alloc (.cells #[.pointer (some t)] 69)).alloc (.cells #[.pointer (some ⟨12, 69, none⟩), .pointer (some ⟨w.heap.size, 0, none⟩), .int .u64 150] 94)).alloc (.cells #[.pointer (some ⟨12, 69, none⟩), .pointer (some ⟨w.heap.size, 0, none⟩), .int .u64 150] 94)).alloc (.cells #[.pointer (some n)] 67))
    (by rw [World.cell?_alloc_at _ _ _ _ (by simp)]; rfl)
    (by rw [World.cell?_alloc_lt _ _ t (by simp; omega), World.cell?_alloc_lt _ _ t (by simp; omega), World.cell?_alloc_lt _ _ t (by simp; omega), World.cell?_alloc_lt _ _ t htl]; exact ht0)
    (by rw [World.frozen?_alloc_old _ _ t (by simp; omega), World.frozen?_alloc_old _ _ t (by simp; omega), World.frozen?_alloc_old _ _ t (by simp; omega), World.frozen?_alloc_old _ _ t (Nat.ne_of_lt htl)]; exact hf0)
  go_enter Tryz.func21, Tryz.ntmps21
  go_wp2
  refine wp_loop_rounds 1 ?_
  rw [rounds_succ]
  go_wp2
  go_ret
  exact ⟨rfl, _, _, _, _, rfl⟩
theorem noAsF (v : Value) (xT : TypeId) (w : World) : (Instr.typeAssert (.iface 67 v) xT 139 true).run Tryz.prog w = .ok (.tuple #[.nilIface, .bool false]) w := run_typeAssert_lacksB Tryz.underlying139 (by kernel_rfl) (by kernel_rfl) v xT w
theorem hasUnwrapF (v : Value) (xT : TypeId) (w : World) : (Instr.typeAssert (.iface 67 v) xT 142 true).run Tryz.prog w = .ok (.tuple #[.iface 67 v, .bool true]) w := run_typeAssert_hasB Tryz.underlying142 (by kernel_rfl) v xT w
theorem methodUnwrapF (v : Value) (w : World) : (Go.method 435 67 v "Unwrap").run Tryz.prog w = .ok (217, v) w := by kernel_rfl
theorem assignableFE (w : World) : (ReflectliteType.relation "AssignableTo" ReflectliteType.assignableTo #[.agg #[.pointer (some ⟨12, 67, none⟩)], .iface 134 (.agg #[.pointer (some ⟨12, 42, none⟩)])]).run Tryz.prog w = .ok (.bool false) w := by kernel_rfl
set_option maxRecDepth 100000 in
set_option maxHeartbeats 4000000 in
theorem as_deep (n : Int) (fb : Nat) (pl pc : Value) (t : Addr) (old : Value) (w : World) (hg : w.cell? ⟨0, 0, none⟩ = some (.iface 134 (.agg #[.pointer (some ⟨12, 31, none⟩)]))) (hfb : w.heap[fb]? = some (.cells #[pl, pc, .iface 42 (.int .i64 n)] 71 (0, 0))) (ht0 : w.cell? t = some old) (hf0 : w.frozen? t = false) :
    Calls Tryz.prog 21 #[.iface 67 (.pointer (some ⟨fb, 0, none⟩)), .iface 72 (.pointer (some t))] w fun ev w' => ev = .returned (.bool true) ∧ ∃ o1 o2 o3 o4, w' = ((((w.alloc o1).alloc o2).alloc o3).alloc o4).setCell t (.int .i64 n) := by
  have h6 := @run_callFunc_extern Tryz.prog 32 _ (fun args => ReflectliteValue.unpack (args.getD 0 (.tuple #[]))) Tryz.func32 (by kernel_rfl) (by kernel_rfl) (by kernel_rfl) (by kernel_rfl)
  have h7 := @run_callFunc_extern Tryz.prog 33 _ (ReflectliteValue.methodAny (ReflectliteValue.valueError "reflectlite.Value.Type" 0) (fun t _ _ _ => ReflectliteType.toType t)) Tryz.func33 (by kernel_rfl) (by kernel_rfl) (by kernel_rfl) (by kernel_rfl)
  have h8 := @run_callFunc_extern Tryz.prog 34 _ (ReflectliteValue.method (ReflectliteValue.valueError "reflectlite.Value.IsNil" 0) ReflectliteValue.isNil) Tryz.func34 (by kernel_rfl) (by kernel_rfl) (by kernel_rfl) (by kernel_rfl)
  have h27 := @run_callFunc_extern Tryz.prog 212 _ (ReflectliteType.abiMethod fun t => do pure (.int .u8 (← Rtype.kind t))) Tryz.func212 (by kernel_rfl) (by kernel_rfl) (by kernel_rfl) (by kernel_rfl)
  have h37 := @run_callFunc_extern Tryz.prog 225 _ (ReflectliteType.method ReflectliteType.elem) Tryz.func225 (by kernel_rfl) (by kernel_rfl) (by kernel_rfl) (by kernel_rfl)
  have h38 := @run_callFunc_extern Tryz.prog 226 _ (ReflectliteType.relation "Implements" ReflectliteType.implements_) Tryz.func226 (by kernel_rfl) (by kernel_rfl) (by kernel_rfl) (by kernel_rfl)
  have h10 := @run_callFunc_extern Tryz.prog 65 _ ReflectliteType.typeOf Tryz.func65 (by kernel_rfl) (by kernel_rfl) (by kernel_rfl) (by kernel_rfl)
  have h35 := @run_callFunc_extern Tryz.prog 223 _ (ReflectliteType.relation "AssignableTo" ReflectliteType.assignableTo) Tryz.func223 (by kernel_rfl) (by kernel_rfl) (by kernel_rfl) (by kernel_rfl)
  have h11 := @run_callFunc_extern Tryz.prog 66 _ (ReflectliteValue.method (ReflectliteValue.valueError "reflectlite.Value.Elem" 0) ReflectliteValue.elem) Tryz.func66 (by kernel_rfl) (by kernel_rfl) (by kernel_rfl) (by kernel_rfl)
  have h12 := @run_callFunc_extern Tryz.prog 67 _ ReflectliteValue.set Tryz.func67 (by kernel_rfl) (by kernel_rfl) (by kernel_rfl) (by kernel_rfl)
  have tO := typeOfE
  have mA := methodAssignableTo
  have aE := assignableE
  have vE := valueOfE
  have f6 := valueOfP
  have f7 := typeP
  have mK := methodKind
  have mE := methodElem
  have mI := methodImplements
  have kP := kindP
  have kE := kindE
  have eP := elemP
  have iE := implementsE
  have n8 := isNilP ⟨w.heap.size, 0, none⟩ t ((w.alloc (.cells #[.pointer (some t)] 72)).alloc (.cells #[.pointer (some ⟨12, 72, none⟩), .pointer (some ⟨w.heap.size, 0, none⟩), .int .u64 150] 94)) (by simp)
  have hlt : 0 < w.heap.size := World.block_lt_of_cell? w _ hg
  have hg2 : ((w.alloc (.cells #[.pointer (some t)] 72)).alloc (.cells #[.pointer (some ⟨12, 72, none⟩), .pointer (some ⟨w.heap.size, 0, none⟩), .int .u64 150] 94)).cell? ⟨0, 0, none⟩ = some (.iface 134 (.agg #[.pointer (some ⟨12, 31, none⟩)])) := by
    rw [World.cell?_alloc_lt _ _ ⟨0, 0, none⟩ (by first | (simp; done) | (simp; omega)), World.cell?_alloc_lt _ _ ⟨0, 0, none⟩ hlt]; exact hg
  have htl : t.block < w.heap.size := World.block_lt_of_cell? w _ ht0
  have el := elemVP ⟨w.heap.size, 0, none⟩ t (((w.alloc (.cells #[.pointer (some t)] 72)).alloc (.cells #[.pointer (some ⟨12, 72, none⟩), .pointer (some ⟨w.heap.size, 0, none⟩), .int .u64 150] 94)).alloc (.cells #[.pointer (some ⟨12, 72, none⟩), .pointer (some ⟨w.heap.size, 0, none⟩), .int .u64 150] 94)) (by rw [World.cell?_alloc_lt _ _ ⟨w.heap.size, 0, none⟩ (by simp; omega)]; simp)
  have st := setE t ⟨w.heap.size + 1 + 1 + 1, 0, none⟩ n old ((((w.alloc (.cells #[.pointer (some t)] 72)).alloc (.cells #[.pointer (some ⟨12, 72, none⟩), .pointer (some ⟨w.heap.size, 0, none⟩), .int .u64 150] 94)).alloc (.cells #[.pointer (some ⟨12, 72, none⟩), .pointer (some ⟨w.heap.size, 0, none⟩), .int .u64 150] 94)).alloc (.cells #[.int .i64 n] 42))
    (by rw [World.cell?_alloc_at _ _ _ _ (by simp)]; rfl)
    (by rw [World.cell?_alloc_lt _ _ t (by simp; omega), World.cell?_alloc_lt _ _ t (by simp; omega), World.cell?_alloc_lt _ _ t (by simp; omega), World.cell?_alloc_lt _ _ t htl]; exact ht0)
    (by rw [World.frozen?_alloc_old _ _ t (by simp; omega), World.frozen?_alloc_old _ _ t (by simp; omega), World.frozen?_alloc_old _ _ t (by simp; omega), World.frozen?_alloc_old _ _ t (Nat.ne_of_lt htl)]; exact hf0)
  have tOF := typeOfEF
  have aFE := assignableFE
  have nAs := noAsF
  have hUn := hasUnwrapF
  have mUn := methodUnwrapF
  have hc2 : ((((w.alloc (.cells #[.pointer (some t)] 72)).alloc (.cells #[.pointer (some ⟨12, 72, none⟩), .pointer (some ⟨w.heap.size, 0, none⟩), .int .u64 150] 94)).alloc (.cells #[.pointer (some ⟨12, 72, none⟩), .pointer (some ⟨w.heap.size, 0, none⟩), .int .u64 150] 94))).cell? ⟨fb, 2, none⟩ = some (.iface 42 (.int .i64 n)) :=
    bk_cell (bk_alloc (bk_alloc (bk_alloc hfb _) _) _) 2 _ rfl
  go_enter Tryz.func21, Tryz.ntmps21
  go_wp2
  refine wp_loop_rounds 2 ?_
  rw [rounds_succ]
  go_wp2
  rw [rounds_succ]
  go_wp2
  go_ret
  exact ⟨rfl, _, _, _, _, rfl⟩
end Go.Proofs.YtigfcchblfnnbaaGreatDoor
namespace Go.Proofs.YtigfcchblfnnbaaGreatDoor
open Go Go.RowKit
set_option linter.all false
namespace Tk
/-- tokens as they are handed back: a list of the call's own -/
structure TokRow (w : World) (B : Nat) (v : Value) (avs : List Value) (ts : List TokV) : Prop where
  toks : w.ownsRow 0 60 7 v ts.length (tokCells avs ts)
  len : avs.length = ts.length
  attrs : ∀ (j : Nat) u t, avs[j]? = some u → ts[j]? = some t → w.ownsRow 0 156 4 u t.attrs.length (t.attrs.flatMap AttrV.cells)
  apart : (v.ownBlock.toList ++ avs.flatMap fun v => v.ownBlock.toList).Nodup
  low : ∀ b ∈ v.ownBlock.toList ++ avs.flatMap fun v => v.ownBlock.toList, B ≤ b
/-- how Tokens ends -/
def Toks (w : World) (r : Except ((Nat × Nat) × Nat) (List TokV)) (e : Ending) (w' : World) : Prop := Pur w w' ∧ match r with
  | .ok ts => ∃ v avs, e = .returned (.tuple #[v, .nilIface]) ∧ TokRow w' w.heap.size v avs ts
  | .error (pos, n) => ∃ b, w.heap.size ≤ b ∧ e = .returned (.tuple #[.slice none 0 0, .iface 67 (.pointer (some ⟨b, 0, none⟩))]) ∧
      w'.heap[b]? = some (.cells #[.int .i64 (pos.1 : Int), .int .i64 (pos.2 : Int), .iface 42 (.int .i64 (n : Int))] 71 (0, 0))
theorem ta_fault (v : Value) (xT : TypeId) (w : World) : (Instr.typeAssert (.iface 67 v) xT 67 false).run Tryz.prog w = .ok v w := by kernel_rfl
theorem catch_pan (p q b : Nat) (v1 v2 : Value) (w : World) (hpq : p ≠ q) (h1 : w.heap[p]? = some (.cells #[v1] 51 (0, 0))) (h2 : w.heap[q]? = some (.cells #[v2] 31 (0, 0))) :
    CallsD Tryz.prog 27 #[.pointer (some ⟨p, 0, none⟩), .pointer (some ⟨q, 0, none⟩)] (.panicking [{ v := .iface 67 (.pointer (some ⟨b, 0, none⟩)), recovered := false }]) w fun e u' w' =>
      e = .returned (.tuple #[]) ∧ u' = .panicking [{ v := .iface 67 (.pointer (some ⟨b, 0, none⟩)), recovered := true }] ∧ Chg [p, q] w w' ∧
      w'.heap[p]? = some (.cells #[.slice none 0 0] 51 (0, 0)) ∧ w'.heap[q]? = some (.cells #[.iface 67 (.pointer (some ⟨b, 0, none⟩))] 31 (0, 0)) := by
  have c1 := bk_cell h1 0 _ rfl
  have c2 := bk_cell h2 0 _ rfl
  have f1 := bk_free h1 0
  have f2 := bk_free h2 0
  have hta := ta_fault
  refine callsD_of_wpS Tryz.func27 rfl fun c₀ cs hu => ?_
  apply wpS_seq
  apply wpS_region
  simp [wpOpsS, go_sem, recoverD, hu, Tryz.ntmps27, Exit.thenS]
  apply wpS_seq
  apply wpS_region
  simp [wpOpsS, go_sem, Exit.thenS, Act.eval, Array.replicate]
  refine wpS_cond (t := true) (by simp [Act.eval, Array.replicate]) ?_
  simp only [if_true]
  refine wpS_of_wp ?_
  go_region
  have k1 : Chg [p, q] w (((w.setCell ⟨p, 0, none⟩ (.slice none 0 0)).setCell ⟨q, 0, none⟩ (.iface 67 (.pointer (some ⟨b, 0, none⟩)))).drew) :=
    (((Chg.refl _ w).setCell (a := ⟨p, 0, none⟩) (.inl (by simp)) _).setCell (a := ⟨q, 0, none⟩) (.inl (by simp)) _).drew
  have k2 : (((w.setCell ⟨p, 0, none⟩ (.slice none 0 0)).setCell ⟨q, 0, none⟩ (.iface 67 (.pointer (some ⟨b, 0, none⟩)))).drew).heap[p]? = some (.cells #[.slice none 0 0] 51 (0, 0)) :=
    bk_drew (bk_other (bk_set h1 0 _) (a := ⟨q, 0, none⟩) hpq _)
  have k3 : (((w.setCell ⟨p, 0, none⟩ (.slice none 0 0)).setCell ⟨q, 0, none⟩ (.iface 67 (.pointer (some ⟨b, 0, none⟩)))).drew).heap[q]? = some (.cells #[.iface 67 (.pointer (some ⟨b, 0, none⟩))] 31 (0, 0)) :=
    bk_drew (bk_set (bk_other h2 (a := ⟨p, 0, none⟩) (Ne.symm hpq) _) 0 _)
  generalize ((w.setCell ⟨p, 0, none⟩ (.slice none 0 0)).setCell ⟨q, 0, none⟩ (.iface 67 (.pointer (some ⟨b, 0, none⟩)))).drew = W at *
  clear c1 c2 f1 f2 hta
  cases c₀
  simp_all [bodyPostS, results, Tryz.results27]
theorem catch_idle (p q : Nat) (w : World) :
    CallsD Tryz.prog 27 #[.pointer (some ⟨p, 0, none⟩), .pointer (some ⟨q, 0, none⟩)] .returning w fun e u' w' => e = .returned (.tuple #[]) ∧ u' = .returning ∧ w' = w := by
  refine callsD_of_wpS Tryz.func27 rfl fun c₀ cs hu => ?_
  apply wpS_seq
  apply wpS_region
  simp [wpOpsS, go_sem, recoverD, hu, Tryz.ntmps27, Exit.thenS]
  apply wpS_seq
  apply wpS_region
  simp [wpOpsS, go_sem, Exit.thenS, Act.eval, Array.replicate]
  refine wpS_cond (t := false) (by simp [Act.eval, Array.replicate]) ?_
  simp only [Bool.false_eq_true, if_false]
  refine wpS_of_wp (wp_skip ?_)
  cases c₀
  simp_all [bodyPostS, results, Tryz.results27]
theorem nil_row (w : World) (e : TypeId) (k : Nat) : w.ownsRow 0 e k (.slice none 0 0) 0 [] := ⟨by simp, .inl ⟨rfl, rfl⟩⟩
/-- TOKENS -/
theorem tokens_any (l : List UInt8) (w : World) (hT : Lib.Utf8Tabs 6 7 w) (hF : FoldW w) :
    Calls Tryz.prog 17 #[.string ⟨l.toArray⟩] w fun e w' => Toks w (whole l) e w' := by
  have hmf : ∀ (fn : Fn) (first cap : Array Value) (w : World), (Instr.makeFunc fn first cap).run Tryz.prog w = .ok (.func fn first cap) w := fun _ _ _ _ => rfl
  obtain ⟨W0, hW0⟩ : ∃ W0, W0 = ((w.alloc (.cells #[.slice none 0 0] 51)).alloc (.cells #[.nilIface] 31)).alloc (.cells #[.slice none 0 0, .int .i64 0, .slice none 0 0, .slice none 0 0, .int .i64 0] 87) := ⟨_, rfl⟩
  have hs1 : (w.alloc (.cells #[.slice none 0 0] 51)).heap.size = w.heap.size + 1 := Array.size_push _
  have hs2 : ((w.alloc (.cells #[.slice none 0 0] 51)).alloc (.cells #[.nilIface] 31)).heap.size = w.heap.size + 1 + 1 := by
    rw [← hs1]; exact Array.size_push _
  have hsz : W0.heap.size = w.heap.size + 1 + 1 + 1 := by rw [hW0, ← hs2]; exact Array.size_push _
  have hP : Pur w W0 := by rw [hW0]; exact (((Pur.refl w).alloc _).alloc _).alloc _
  have b0 : W0.heap[w.heap.size]? = some (.cells #[.slice none 0 0] 51 (0, 0)) := by
    rw [hW0]; exact bk_alloc (bk_alloc (bk_new w _) _) _
  have b1 : W0.heap[w.heap.size + 1]? = some (.cells #[.nilIface] 31 (0, 0)) := by
    rw [hW0]; have := bk_alloc (bk_new (w.alloc (.cells #[.slice none 0 0] 51)) (.cells #[.nilIface] 31)) (.cells #[.slice none 0 0, .int .i64 0, .slice none 0 0, .slice none 0 0, .int .i64 0] 87)
    rwa [hs1] at this
  have b2 : W0.heap[w.heap.size + 1 + 1]? = some (.cells #[.slice none 0 0, .int .i64 0, .slice none 0 0, .slice none 0 0, .int .i64 0] 87 (0, 0)) := by
    rw [hW0]; have := bk_new ((w.alloc (.cells #[.slice none 0 0] 51)).alloc (.cells #[.nilIface] 31)) (.cells #[.slice none 0 0, .int .i64 0, .slice none 0 0, .slice none 0 0, .int .i64 0] 87)
    rwa [hs2] at this
  have hAt : At W0 ⟨w.heap.size + 1 + 1, .slice none 0 0, .slice none 0 0, .slice none 0 0, []⟩ ⟨[], 0, [], [], 0⟩ :=
    ⟨b2, nil_row _ _ _, nil_row _ _ _, nil_row _ _ _, rfl, (fun j v t hv _ => by simp at hv), by simp [Pl.all, Pl.rows, Pl.kept, Value.ownBlock], by simp, (fun c hc => by cases hc), fun c hc => by cases hc⟩
  have hB : Base w ⟨w.heap.size + 1 + 1, .slice none 0 0, .slice none 0 0, .slice none 0 0, []⟩ W0 :=
    ⟨hT, hF, hP, by intro b hb; simp [Pl.all, Pl.rows, Pl.kept, Value.ownBlock] at hb; omega⟩
  have hall : (⟨w.heap.size + 1 + 1, .slice none 0 0, .slice none 0 0, .slice none 0 0, []⟩ : Pl).all = [w.heap.size + 1 + 1] := by simp [Pl.all, Pl.rows, Pl.kept, Value.ownBlock]
  have AL := all_any l hAt hB
  rcases hr : whole l with ⟨pos, n⟩ | ts
  · rw [hr] at AL
    go_enter_defers Tryz.func17, Tryz.ntmps17
    go_wp2_with fail
    rw [← hW0]
    refine AL.mono ?_
    intro e w1 hA
    obtain ⟨b, rfl, hb, hc, hcell⟩ := hA
    rw [hall] at hc
    have q0 : w1.heap[w.heap.size]? = _ := bk_chg b0 hc (by simp; omega)
    have q1 : w1.heap[w.heap.size + 1]? = _ := bk_chg b1 hc (by simp)
    refine leaves_cons (f := 27) (args := #[.pointer (some ⟨w.heap.size, 0, none⟩), .pointer (some ⟨w.heap.size + 1, 0, none⟩)]) (by simp) (by simp [go_sem]) ?_
    refine (catch_pan _ _ b _ _ _ (by omega) q0 q1).mono ?_
    rintro e u' w2 ⟨rfl, rfl, hc2, r0, r1⟩
    have z0 := bk_cell r0 0 _ rfl
    have z1 := bk_cell r1 0 _ rfl
    have hPur : Pur w w2 := pur_chg (pur_chg hP hc (by intro x hx; simp at hx; omega)) hc2 (by intro x hx; simp at hx; omega)
    have hcell2 : w2.heap[b]? = some (.cells #[.int .i64 (pos.1 : Int), .int .i64 (pos.2 : Int), .iface 42 (.int .i64 (n : Int))] 71 (0, 0)) := bk_chg hcell hc2 (by simp; omega)
    have hend : Toks w (.error (pos, n)) (.returned (.tuple #[.slice none 0 0, .iface 67 (.pointer (some ⟨b, 0, none⟩))])) w2 := ⟨hPur, b, by omega, rfl, hcell2⟩
    clear hcell hcell2 hc hc2 q0 q1 r0 r1 hPur AL hAt hB b0 b1 b2 hP hsz hs1 hs2
    simp [Leaves, settle, results, Tryz.results17, go_sem, z0, z1, hend]
  · rw [hr] at AL
    go_enter_defers Tryz.func17, Tryz.ntmps17
    go_wp2_with fail
    rw [← hW0]
    refine AL.mono ?_
    intro e w1 hA
    obtain ⟨rfl, p', d', hA1, hts, hst⟩ := hA
    have ps : p'.s = w.heap.size + 1 + 1 := hst.s
    have hc := hst.chg
    rw [hall] at hc
    have q0 : w1.heap[w.heap.size]? = _ := bk_chg b0 hc (by simp; omega)
    have q1 : w1.heap[w.heap.size + 1]? = _ := bk_chg b1 hc (by simp)
    have c2 := hA1.c2
    have f2 := hA1.f 2
    have hnew : ∀ b ∈ p'.all, w.heap.size + 1 + 1 ≤ b := fun b hb => by
      rcases hst.new b hb with h | h
      · rw [hall] at h; simp at h; omega
      · omega
    obtain ⟨ta, tc, htv⟩ := row_shape hA1.toks
    have hlen : d'.toks.length = ts.length := by rw [hts]
    rw [ps, htv, hlen] at c2
    rw [ps] at f2
    have x0 := bk_cell q0 0 _ rfl
    have x1 := bk_cell q1 0 _ rfl
    have y0 := bk_free q0 0
    have y1 := bk_free q1 0
    clear AL
    go_wp2
    obtain ⟨W2, hW2⟩ : ∃ W2, W2 = (w1.setCell ⟨w.heap.size, 0, none⟩ (.slice ta ts.length tc)).setCell ⟨w.heap.size + 1, 0, none⟩ .nilIface := ⟨_, rfl⟩
    rw [← hW2]
    have r0 : W2.heap[w.heap.size]? = some (.cells #[.slice ta ts.length tc] 51 (0, 0)) := by
      rw [hW2]; exact bk_other (bk_set q0 0 _) (a := ⟨w.heap.size + 1, 0, none⟩) (by simp) _
    have r1 : W2.heap[w.heap.size + 1]? = some (.cells #[.nilIface] 31 (0, 0)) := by
      rw [hW2]; exact bk_set (bk_other q1 (a := ⟨w.heap.size, 0, none⟩) (by simp) _) 0 _
    have z0 := bk_cell r0 0 _ rfl
    have z1 := bk_cell r1 0 _ rfl
    have hc2 : Chg [w.heap.size, w.heap.size + 1] w1 W2 := by
      rw [hW2]; exact ((Chg.refl _ w1).setCell (a := ⟨w.heap.size, 0, none⟩) (.inl (by simp)) _).setCell (a := ⟨w.heap.size + 1, 0, none⟩) (.inl (by simp)) _
    have hA2 : At W2 p' d' := hA1.same fun b hb => hc2.block b (hA1.lt b hb) (by have := hnew b hb; simp; omega)
    have hPur : Pur w W2 := pur_chg (pur_chg hP hc (by intro x hx; simp at hx; omega)) hc2 (by intro x hx; simp at hx; omega)
    have hsub : ∀ b, b ∈ p'.tv.ownBlock.toList ++ p'.kept → b ∈ p'.all := fun b hb => by
      unfold Pl.all Pl.rows
      rcases List.mem_append.1 hb with h | h <;> simp [h]
    have hend : Toks w (.ok ts) (.returned (.tuple #[.slice ta ts.length tc, .nilIface])) W2 := by
      refine ⟨hPur, .slice ta ts.length tc, p'.avs, rfl, ?_⟩
      rw [← hlen, ← htv]
      refine ⟨by rw [← hts]; exact hA2.toks, by rw [hA2.len, hts], by rw [← hts]; exact hA2.attrs, ?_, fun b hb => ?_⟩
      · have h1 := hA2.apart
        unfold Pl.all Pl.rows at h1
        have h2 := (List.nodup_cons.1 h1).2
        rw [List.nodup_append] at h2 ⊢
        obtain ⟨k1, k2, k3⟩ := h2
        rw [List.nodup_append] at k2
        obtain ⟨k4, k5, k6⟩ := k2
        rw [List.nodup_append] at k5
        exact ⟨k1, k5.2.1, fun a ha b hb => k3 a ha b (by simp; exact .inr (.inr (by simpa [Pl.kept] using hb)))⟩
      · have := hnew b (hsub b hb); omega
    clear hA2 hA1 hPur hc hc2 q0 q1 r0 r1 hAt hB b0 b1 b2 hP hsz hs1 hs2 hW2 hst hnew c2 f2 x0 x1 y0 y1
    refine leaves_cons (f := 27) (args := #[.pointer (some ⟨w.heap.size, 0, none⟩), .pointer (some ⟨w.heap.size + 1, 0, none⟩)]) (by simp) (by simp [go_sem]) ?_
    refine (catch_idle _ _ W2).mono ?_
    rintro e u' w3 ⟨rfl, rfl, rfl⟩
    simp [Leaves, settle, results, Tryz.results17, go_sem, z0, z1, hend]
end Tk
end Go.Proofs.YtigfcchblfnnbaaGreatDoor
namespace Go.Proofs.YtigfcchblfnnbaaGreatDoor
open Go Go.RowKit
set_option linter.all false
namespace Tk
/-- the library's variables -/
structure TW (w : World) : Prop where
  tabs : Lib.Utf8Tabs 6 7 w
  fold : FoldW w
  et : w.cell? ⟨0, 0, none⟩ = some (.iface 134 (.agg #[.pointer (some ⟨12, 31, none⟩)]))
theorem TW.pur {w w' : World} (h : TW w) (hp : Pur w w') : TW w' :=
  ⟨Utf8Tabs_below h.tabs hp, h.fold.pur hp, (hp.cell (World.block_lt_of_cell? w _ h.et)).trans h.et⟩
theorem as_fault (n : Addr) (t : Nat) (old : Value) (w : World) (hW : TW w) (ht : w.heap[t]? = some (.cells #[old] 67 (0, 0))) :
    Calls Tryz.prog 21 #[.iface 67 (.pointer (some n)), .iface 69 (.pointer (some ⟨t, 0, none⟩))] w fun ev w' => ev = .returned (.bool true) ∧ Chg [t] w w' ∧ w'.heap[t]? = some (.cells #[.pointer (some n)] 67 (0, 0)) := by
  refine (as_hitF n ⟨t, 0, none⟩ old w hW.et (bk_cell ht 0 _ rfl) (bk_free ht 0)).mono ?_
  rintro ev w' ⟨rfl, o1, o2, o3, o4, rfl⟩
  exact ⟨rfl, ((((((Chg.refl [t] w).alloc o1).alloc o2).alloc o3).alloc o4).setCell (a := ⟨t, 0, none⟩) (.inl (by simp)) _), bk_set (bk_alloc (bk_alloc (bk_alloc (bk_alloc ht o1) o2) o3) o4) 0 _⟩
theorem as_errno (n : Int) (fb t : Nat) (pl pc old : Value) (w : World) (hW : TW w) (hfb : w.heap[fb]? = some (.cells #[pl, pc, .iface 42 (.int .i64 n)] 71 (0, 0))) (ht : w.heap[t]? = some (.cells #[old] 42 (0, 0))) :
    Calls Tryz.prog 21 #[.iface 67 (.pointer (some ⟨fb, 0, none⟩)), .iface 72 (.pointer (some ⟨t, 0, none⟩))] w fun ev w' => ev = .returned (.bool true) ∧ Chg [t] w w' ∧ w'.heap[t]? = some (.cells #[.int .i64 n] 42 (0, 0)) := by
  refine (as_deep n fb pl pc ⟨t, 0, none⟩ old w hW.et hfb (bk_cell ht 0 _ rfl) (bk_free ht 0)).mono ?_
  rintro ev w' ⟨rfl, o1, o2, o3, o4, rfl⟩
  exact ⟨rfl, ((((((Chg.refl [t] w).alloc o1).alloc o2).alloc o3).alloc o4).setCell (a := ⟨t, 0, none⟩) (.inl (by simp)) _), bk_set (bk_alloc (bk_alloc (bk_alloc (bk_alloc ht o1) o2) o3) o4) 0 _⟩
theorem tell_fault (b : Nat) (l c n : Int) (w : World) (hW : TW w) (hb : w.heap[b]? = some (.cells #[.int .i64 l, .int .i64 c, .iface 42 (.int .i64 n)] 71 (0, 0))) :
    Calls Tryz.prog 10 #[.iface 67 (.pointer (some ⟨b, 0, none⟩))] w fun e w' => e = .returned (.tuple #[.int .i64 n, .agg #[.int .i64 l, .int .i64 c]]) ∧ Pur w w' := by
  obtain ⟨W1, hW1⟩ : ∃ W1, W1 = w.alloc (.cells #[.int .i64 0, .int .i64 0] 36) := ⟨_, rfl⟩
  obtain ⟨W2, hW2⟩ : ∃ W2, W2 = W1.alloc (.cells #[.pointer none] 67) := ⟨_, rfl⟩
  obtain ⟨W3, hW3⟩ : ∃ W3, W3 = W2.alloc (.cells #[.int .i64 0] 42) := ⟨_, rfl⟩
  obtain ⟨W4, hW4⟩ : ∃ W4, W4 = W3.alloc (.cells #[.int .i64 0, .int .i64 0] 36) := ⟨_, rfl⟩
  have s1 : W1.heap.size = w.heap.size + 1 := by rw [hW1]; exact Array.size_push _
  have s2 : W2.heap.size = w.heap.size + 1 + 1 := by rw [hW2, ← s1]; exact Array.size_push _
  have s3 : W3.heap.size = w.heap.size + 1 + 1 + 1 := by rw [hW3, ← s2]; exact Array.size_push _
  have s4 : W4.heap.size = w.heap.size + 1 + 1 + 1 + 1 := by rw [hW4, ← s3]; exact Array.size_push _
  have hP : Pur w W4 := by rw [hW4, hW3, hW2, hW1]; exact ((((Pur.refl w).alloc _).alloc _).alloc _).alloc _
  have b0 : W4.heap[w.heap.size]? = some (.cells #[.int .i64 0, .int .i64 0] 36 (0, 0)) := by
    rw [hW4, hW3, hW2, hW1]; exact bk_alloc (bk_alloc (bk_alloc (bk_new w _) _) _) _
  have b1 : W4.heap[w.heap.size + 1]? = some (.cells #[.pointer none] 67 (0, 0)) := by
    have := bk_new W1 (.cells #[.pointer none] 67)
    rw [s1] at this; rw [hW4, hW3, hW2]; exact bk_alloc (bk_alloc this _) _
  have b2 : W4.heap[w.heap.size + 1 + 1]? = some (.cells #[.int .i64 0] 42 (0, 0)) := by
    have := bk_new W2 (.cells #[.int .i64 0] 42)
    rw [s2] at this; rw [hW4, hW3]; exact bk_alloc this _
  have b3 : W4.heap[w.heap.size + 1 + 1 + 1]? = some (.cells #[.int .i64 0, .int .i64 0] 36 (0, 0)) := by
    have := bk_new W3 (.cells #[.int .i64 0, .int .i64 0] 36)
    rw [s3] at this; rw [hW4]; exact this
  have hlt := bk_lt hb
  have bb := bk_pur hb hP
  have A1 := as_fault ⟨b, 0, none⟩ (w.heap.size + 1) _ W4 (hW.pur hP) b1
  go_enter Tryz.func10, Tryz.ntmps10
  go_wp2_with fail
  rw [← hW1, ← hW2, ← hW3, ← hW4]
  refine A1.mono ?_
  rintro e w1 ⟨rfl, hc1, k1⟩
  have k0 := bk_chg b0 hc1 (by simp only [List.mem_singleton]; omega)
  have k2 := bk_chg b2 hc1 (by simp only [List.mem_singleton]; omega)
  have k3 := bk_chg b3 hc1 (by simp only [List.mem_singleton]; omega)
  have kb := bk_chg bb hc1 (by simp only [List.mem_singleton]; omega)
  have hp1 : Pur w w1 := pur_chg hP hc1 (by intro x hx; simp only [List.mem_singleton] at hx; omega)
  have z1 := bk_cell k1 0 _ rfl
  have zl := bk_cell kb 0 _ rfl
  have zc := bk_cell kb 1 _ rfl
  have z3 := bk_cell k3 0 _ rfl
  have z4 := bk_cell k3 1 _ rfl
  have f3 := bk_free k3 0
  have f4 := bk_free k3 1
  clear A1 hc1 hP b0 b1 b2 b3 bb hb
  go_wp2_with fail
  obtain ⟨W5, hW5⟩ : ∃ W5, W5 = (w1.setCell ⟨w.heap.size + 1 + 1 + 1, 0, none⟩ (.int .i64 l)).setCell ⟨w.heap.size + 1 + 1 + 1, 1, none⟩ (.int .i64 c) := ⟨_, rfl⟩
  have hc5 : Chg [w.heap.size + 1 + 1 + 1] w1 W5 := by
    rw [hW5]; exact ((Chg.refl _ w1).setCell (a := ⟨w.heap.size + 1 + 1 + 1, 0, none⟩) (.inl (by simp)) _).setCell (a := ⟨w.heap.size + 1 + 1 + 1, 1, none⟩) (.inl (by simp)) _
  have m3 : W5.heap[w.heap.size + 1 + 1 + 1]? = some (.cells #[.int .i64 l, .int .i64 c] 36 (0, 0)) := by
    rw [hW5]; exact bk_set (bk_set k3 0 _) 1 _
  have m0 := bk_chg k0 hc5 (by simp only [List.mem_singleton]; omega)
  have m2 := bk_chg k2 hc5 (by simp only [List.mem_singleton]; omega)
  have mb := bk_chg kb hc5 (by simp only [List.mem_singleton]; omega)
  have hp5 : Pur w W5 := pur_chg hp1 hc5 (by intro x hx; simp at hx; omega)
  have A2 := as_errno n b (w.heap.size + 1 + 1) _ _ _ W5 (hW.pur hp5) mb m2
  rw [← hW5]
  refine A2.mono ?_
  rintro e w6 ⟨rfl, hc6, r2⟩
  have r0 := bk_chg m0 hc6 (by simp only [List.mem_singleton]; omega)
  have r3 := bk_chg m3 hc6 (by simp only [List.mem_singleton]; omega)
  have hp6 : Pur w w6 := pur_chg hp5 hc6 (by intro x hx; simp at hx; omega)
  have y0 := bk_cell r0 0 _ rfl
  have y1 := bk_cell r0 1 _ rfl
  have g0 := bk_free r0 0
  have g1 := bk_free r0 1
  have y2 := bk_cell r2 0 _ rfl
  have y3 := bk_cell r3 0 _ rfl
  have y4 := bk_cell r3 1 _ rfl
  clear A2 hc6 hc5 m0 m2 m3 mb k0 k1 k2 k3 kb z1 zl zc z3 z4 f3 f4 hp1 hp5
  go_wp2
  go_region
  go_wp2
  obtain ⟨W7, hW7⟩ : ∃ W7, W7 = (w6.setCell ⟨w.heap.size, 0, none⟩ (.int .i64 l)).setCell ⟨w.heap.size, 1, none⟩ (.int .i64 c) := ⟨_, rfl⟩
  have m0 : W7.heap[w.heap.size]? = some (.cells #[.int .i64 l, .int .i64 c] 36 (0, 0)) := by
    rw [hW7]; exact bk_set (bk_set r0 0 _) 1 _
  have hp7 : Pur w W7 := by rw [hW7]; exact (hp6.setCell (Nat.le_refl _) _).setCell (Nat.le_refl _) _
  have z0 : W7.drew.cell? ⟨w.heap.size, 0, none⟩ = some (.int .i64 l) := bk_cell (bk_drew m0) 0 _ rfl
  have z1 : W7.drew.cell? ⟨w.heap.size, 1, none⟩ = some (.int .i64 c) := bk_cell (bk_drew m0) 1 _ rfl
  rw [← hW7]
  refine bodyPost_ret (v := .tuple #[.int .i64 n, .agg #[.int .i64 l, .int .i64 c]]) (by simp [results, Tryz.results10, go_sem, z0, z1]) rfl ⟨rfl, hp7.drew⟩
end Tk
end Go.Proofs.YtigfcchblfnnbaaGreatDoor
namespace Go.Proofs.YtigfcchblfnnbaaGreatDoor
open Go Go.RowKit
set_option linter.all false
section
variable {P : Program} {w : World}
theorem eqFields_nil (d : Nat) (xs ys : Array Value) : (Op.eqFields d xs ys []).run P w = .ok true w := rfl
theorem eqFields_cons {d : Nat} {xs ys : Array Value} {f : Field} {fs : List Field} {a b : Value} {r R : Bool} (hn : f.name ≠ "_")
    (ha : (part f.type xs f.offset).run P w = .ok a w) (hb : (part f.type ys f.offset).run P w = .ok b w) (hr : (Op.equalIn d f.type a b).run P w = .ok r w)
    (hR : (Op.eqFields d xs ys fs).run P w = .ok R w) : (Op.eqFields d xs ys (f :: fs)).run P w = .ok (r && R) w := by
  simp only [Op.eqFields]
  rw [if_pos hn]
  simp only [Sem.run_bind, ha, Result.andThen_ok, hb, hr, Sem.run_ite]
  cases r with
  | false => simp
  | true => simpa using hR
theorem eq_int_in (d : Nat) (t : TypeId) (k k' : IntKind) (x y : Int) (h : P.underlying t = some (.int k')) : (Op.equalIn (d + 1) t (.int k x) (.int k y)).run P w = .ok (decide (x = y)) w := by
  rw [run_equalIn_int w d t k k' x y h]
  congr 1
end
end Go.Proofs.YtigfcchblfnnbaaGreatDoor
namespace Go.Proofs.YtigfcchblfnnbaaGreatDoor
open Go Go.RowKit
set_option linter.all false
namespace Tk
/-- a place, as whole numbers -/
structure P2 where
  l : Int
  c : Int
  deriving DecidableEq
theorem pos_under : Tryz.prog.underlying 36 = some (.struct (Tryz.prog.fieldsOf 36)) := by kernel_rfl
theorem pos_stood : Tryz.prog.stoodInHeld 36 = false := by kernel_rfl
theorem pos_guard : Tryz.prog.eqGuardType Tryz.prog.depth 36 = false := by kernel_rfl
theorem pos_fields : (Tryz.prog.fieldsOf 36).toList = [{ name := "Line", type := 3, offset := 0, embedded := false, tag := "", pkgPath := "", byteOffset := 0 }, { name := "Col", type := 3, offset := 1, embedded := false, tag := "", pkgPath := "", byteOffset := 8 }] := by kernel_rfl
/-- are two of them the same? -/
def posEq (a b : P2) : Bool := decide (a = b)
@[go_sem] theorem guard_pos (op : BinOp) (x y : Operand) (xs ys : Array Value) (w : World) : (eqGuard op 36 x y (.agg xs) (.agg ys)).run Tryz.prog w = .ok () w := run_eqGuard_agg w op _ x y xs ys pos_guard
theorem run_pos_in (l0 : Int) (c0 : Int) (l1 : Int) (c1 : Int) (w : World) : (Op.equalIn 10000 36 (.agg #[.int .i64 l0, .int .i64 c0]) (.agg #[.int .i64 l1, .int .i64 c1])).run Tryz.prog w = .ok (posEq (⟨l0, c0⟩ : P2) (⟨l1, c1⟩ : P2)) w := by
  rw [run_equalIn_struct w 9999 _ _ _ pos_under pos_stood, pos_fields]
  have e : posEq (⟨l0, c0⟩ : P2) (⟨l1, c1⟩ : P2) = (decide (l0 = l1) && (decide (c0 = c1) && true)) := by
    unfold posEq
    rw [Bool.eq_iff_iff]
    simp [and_assoc]
  rw [e]
  refine eqFields_cons (a := .int .i64 l0) (b := .int .i64 l1) (by decide) (by go_simp) (by go_simp) (eq_int_in 9998 3 .i64 .i64 _ _ Tryz.underlying3) ?_
  refine eqFields_cons (a := .int .i64 c0) (b := .int .i64 c1) (by decide) (by go_simp) (by go_simp) (eq_int_in 9998 3 .i64 .i64 _ _ Tryz.underlying3) ?_
  exact eqFields_nil _ _ _
@[go_sem high] theorem run_neq_pos (l0 : Int) (c0 : Int) (l1 : Int) (c1 : Int) (w : World) : (binOp .neq 36 (.agg #[.int .i64 l0, .int .i64 c0]) (.agg #[.int .i64 l1, .int .i64 c1])).run Tryz.prog w = .ok (.bool (!posEq (⟨l0, c0⟩ : P2) (⟨l1, c1⟩ : P2))) w := by
  rw [run_neq_struct, run_pos_in]
  rfl
@[go_sem high] theorem run_eql_pos (l0 : Int) (c0 : Int) (l1 : Int) (c1 : Int) (w : World) : (binOp .eql 36 (.agg #[.int .i64 l0, .int .i64 c0]) (.agg #[.int .i64 l1, .int .i64 c1])).run Tryz.prog w = .ok (.bool (posEq (⟨l0, c0⟩ : P2) (⟨l1, c1⟩ : P2))) w := by
  rw [run_eql_struct, run_pos_in]
  rfl
end Tk
end Go.Proofs.YtigfcchblfnnbaaGreatDoor
namespace Go.Proofs.YtigfcchblfnnbaaGreatDoor
open Go Go.RowKit
set_option linter.all false
namespace Tk
/-- v reads as these attributes -/
def ARead (w : World) (v : Value) (l : List AttrV) : Prop :=
  ∃ a c, v = .slice a l.length c ∧ (l.length ≤ c ∧ l.length ≤ 9223372036854775807) ∧ ∀ (i : Nat) x, l[i]? = some x → ∃ g, a = some ⟨g, 0, none⟩ ∧ g < w.heap.size ∧
    w.cell? ⟨g, i * 4, none⟩ = some (.string ⟨x.nm.toArray⟩) ∧ w.cell? ⟨g, i * 4 + 1, none⟩ = some (.string ⟨x.val.toArray⟩) ∧
    w.cell? ⟨g, i * 4 + 2, none⟩ = some (.int .i64 (x.at_.1 : Int)) ∧ w.cell? ⟨g, i * 4 + 3, none⟩ = some (.int .i64 (x.at_.2 : Int))
/-- v reads as these tokens -/
def TRead (w : World) (v : Value) (ts : List TokV) : Prop :=
  ∃ a c, v = .slice a ts.length c ∧ (ts.length ≤ c ∧ ts.length ≤ 9223372036854775807) ∧ ∀ (i : Nat) t, ts[i]? = some t → ∃ g av, a = some ⟨g, 0, none⟩ ∧ g < w.heap.size ∧
    w.cell? ⟨g, i * 7, none⟩ = some (.int .i64 (t.kind : Int)) ∧ w.cell? ⟨g, i * 7 + 1, none⟩ = some (.string ⟨t.nm.toArray⟩) ∧
    w.cell? ⟨g, i * 7 + 2, none⟩ = some av ∧ w.cell? ⟨g, i * 7 + 3, none⟩ = some (.string ⟨t.text.toArray⟩) ∧
    w.cell? ⟨g, i * 7 + 4, none⟩ = some (.int .i64 (t.at_.1 : Int)) ∧ w.cell? ⟨g, i * 7 + 5, none⟩ = some (.int .i64 (t.at_.2 : Int)) ∧
    w.cell? ⟨g, i * 7 + 6, none⟩ = some (.bool t.empty) ∧ ARead w av t.attrs
theorem ARead.pur {w w' : World} {v : Value} {l : List AttrV} (h : ARead w v l) (hp : Pur w w') : ARead w' v l := by
  obtain ⟨a, c, h1, h2, h3⟩ := h
  refine ⟨a, c, h1, h2, fun i x hx => ?_⟩
  obtain ⟨g, e, hg, k0, k1, k2, k3⟩ := h3 i x hx
  exact ⟨g, e, Nat.lt_of_lt_of_le hg hp.size, (hp.cell hg).trans k0, (hp.cell hg).trans k1, (hp.cell hg).trans k2, (hp.cell hg).trans k3⟩
theorem TRead.pur {w w' : World} {v : Value} {l : List TokV} (h : TRead w v l) (hp : Pur w w') : TRead w' v l := by
  obtain ⟨a, c, h1, h2, h3⟩ := h
  refine ⟨a, c, h1, h2, fun i x hx => ?_⟩
  obtain ⟨g, av, e, hg, k0, k1, k2, k3, k4, k5, k6, k7⟩ := h3 i x hx
  exact ⟨g, av, e, Nat.lt_of_lt_of_le hg hp.size, (hp.cell hg).trans k0, (hp.cell hg).trans k1, (hp.cell hg).trans k2, (hp.cell hg).trans k3, (hp.cell hg).trans k4, (hp.cell hg).trans k5, (hp.cell hg).trans k6, k7.pur hp⟩
theorem add_z (g j : Nat) : (Addr.mk g 0 none).add j = ⟨g, j, none⟩ := by
  unfold Addr.add; split <;> simp_all
theorem ARead.of_own {w : World} {v : Value} {l : List AttrV} (h : w.ownsRow 0 156 4 v l.length (l.flatMap AttrV.cells)) : ARead w v l := by
  rcases h.2 with ⟨rfl, h0⟩ | ⟨g, cap, cur, rfl, hb, hg, hn, hcm, _⟩
  · obtain rfl : l = [] := List.length_eq_zero_iff.1 h0
    exact ⟨none, 0, rfl, ⟨Nat.le_refl _, by simp⟩, fun i x hx => by simp at hx⟩
  · refine ⟨_, _, rfl, ⟨hn, by unfold maxLen at hcm; omega⟩, fun i x hx => ⟨g, rfl, bk_lt hg, ?_, ?_, ?_, ?_⟩⟩
    all_goals
      have hc := h.cells (g := g) rfl
      simp only [add_z] at hc
    · exact hc (i * 4) _ (by rw [Nat.mul_comm i 4]; have := attr_cells l i 0 x hx (by omega); simpa [AttrV.cells] using this)
    · exact hc (i * 4 + 1) _ (by rw [Nat.mul_comm i 4]; have := attr_cells l i 1 x hx (by omega); simpa [AttrV.cells] using this)
    · exact hc (i * 4 + 2) _ (by rw [Nat.mul_comm i 4]; have := attr_cells l i 2 x hx (by omega); simpa [AttrV.cells] using this)
    · exact hc (i * 4 + 3) _ (by rw [Nat.mul_comm i 4]; have := attr_cells l i 3 x hx (by omega); simpa [AttrV.cells] using this)
theorem tok_cells : ∀ (avs : List Value) (ts : List TokV) (k i : Nat) (av : Value) (t : TokV), avs[k]? = some av → ts[k]? = some t → i < 7 → (tokCells avs ts)[7 * k + i]? = (t.cells av)[i]?
  | [], ts, k, i, av, t, h, _, _ => by simp at h
  | a :: avs, [], k, i, av, t, _, h, _ => by simp at h
  | a :: avs, s :: ts, 0, i, av, t, h, h2, hi => by
    obtain rfl : a = av := by simpa using h
    obtain rfl : s = t := by simpa using h2
    unfold tokCells
    rw [List.zip_cons_cons, List.flatMap_cons, List.getElem?_append_left (by simp [TokV.cells]; omega)]
    simp
  | a :: avs, s :: ts, k + 1, i, av, t, h, h2, hi => by
    have := tok_cells avs ts k i av t (by simpa using h) (by simpa using h2) hi
    unfold tokCells at this ⊢
    have hl : (s.cells a).length = 7 := rfl
    rw [List.zip_cons_cons, List.flatMap_cons, List.getElem?_append_right (by rw [hl]; omega), hl, show 7 * (k + 1) + i - 7 = 7 * k + i by omega]
    exact this
theorem TokRow.read {w : World} {B : Nat} {v : Value} {avs : List Value} {ts : List TokV} (h : TokRow w B v avs ts) : TRead w v ts := by
  have ha := h.attrs
  have hl := h.len
  rcases h.toks.2 with ⟨rfl, h0⟩ | ⟨g, cap, cur, rfl, hb, hg, hn, hcm, _⟩
  · obtain rfl : ts = [] := List.length_eq_zero_iff.1 h0
    exact ⟨none, 0, rfl, ⟨Nat.le_refl _, by simp⟩, fun i x hx => by simp at hx⟩
  · refine ⟨_, _, rfl, ⟨hn, by unfold maxLen at hcm; omega⟩, fun i t ht => ?_⟩
    obtain ⟨av, hav⟩ : ∃ av, avs[i]? = some av := by
      have := (List.getElem?_eq_some_iff.1 ht).1
      exact ⟨avs[i]'(by omega), List.getElem?_eq_getElem _⟩
    have hc := h.toks.cells (g := g) rfl
    simp only [add_z] at hc
    have hk := fun k (hk : k < 7) => tok_cells avs ts i k av t hav ht hk
    refine ⟨g, av, rfl, bk_lt hg, hc (i * 7) _ ?_, hc (i * 7 + 1) _ ?_, hc (i * 7 + 2) _ ?_, hc (i * 7 + 3) _ ?_, hc (i * 7 + 4) _ ?_, hc (i * 7 + 5) _ ?_, hc (i * 7 + 6) _ ?_, .of_own (ha i av t hav ht)⟩
    · rw [Nat.mul_comm i 7]; have := hk 0 (by omega); simpa [TokV.cells] using this
    · rw [Nat.mul_comm i 7]; have := hk 1 (by omega); simpa [TokV.cells] using this
    · rw [Nat.mul_comm i 7]; have := hk 2 (by omega); simpa [TokV.cells] using this
    · rw [Nat.mul_comm i 7]; have := hk 3 (by omega); simpa [TokV.cells] using this
    · rw [Nat.mul_comm i 7]; have := hk 4 (by omega); simpa [TokV.cells] using this
    · rw [Nat.mul_comm i 7]; have := hk 5 (by omega); simpa [TokV.cells] using this
    · rw [Nat.mul_comm i 7]; have := hk 6 (by omega); simpa [TokV.cells] using this
/-- a token by value -/
def TokV.val (av : Value) (t : TokV) : Value := .agg (t.cells av).toArray
@[go_sem] theorem posEq_self (a : P2) : posEq a a = true := by simp [posEq]
end Tk
end Go.Proofs.YtigfcchblfnnbaaGreatDoor
namespace Go.Proofs.YtigfcchblfnnbaaGreatDoor
open Go Go.RowKit
set_option linter.all false
namespace Tk
end Tk
end Go.Proofs.YtigfcchblfnnbaaGreatDoor
namespace Go.Proofs.YtigfcchblfnnbaaGreatDoor
open Go Go.RowKit
set_option linter.all false
namespace Tk
abbrev Ans := Except ((Nat × Nat) × Nat) (List TokV)
/-- what Tokens has handed back says this -/
def Told (w : World) (r : Ans) (v ev : Value) : Prop := match r with
  | .ok ts => ev = .nilIface ∧ TRead w v ts
  | .error (pos, n) => v = .slice none 0 0 ∧ ∃ b, ev = .iface 67 (.pointer (some ⟨b, 0, none⟩)) ∧
      w.heap[b]? = some (.cells #[.int .i64 (pos.1 : Int), .int .i64 (pos.2 : Int), .iface 42 (.int .i64 (n : Int))] 71 (0, 0))
theorem Told.pur {w w' : World} {r : Ans} {v ev : Value} (h : Told w r v ev) (hp : Pur w w') : Told w' r v ev := by
  rcases r with ⟨pos, n⟩ | ts
  · obtain ⟨h1, b, h2, h3⟩ := h
    exact ⟨h1, b, h2, bk_pur h3 hp⟩
  · exact ⟨h.1, h.2.pur hp⟩
theorem tokens_told (l : List UInt8) (w : World) (hW : TW w) : Calls Tryz.prog 17 #[.string ⟨l.toArray⟩] w fun e w' => ∃ v ev, e = .returned (.tuple #[v, ev]) ∧ Pur w w' ∧ Told w' (whole l) v ev := by
  refine (tokens_any l w hW.tabs hW.fold).mono ?_
  rintro e w' ⟨hp, h⟩
  rcases hr : whole l with ⟨pos, n⟩ | ts
  · rw [hr] at h
    obtain ⟨b, hb, rfl, hc⟩ := h
    exact ⟨_, _, rfl, hp, rfl, b, rfl, hc⟩
  · rw [hr] at h
    obtain ⟨v, avs, rfl, hrow⟩ := h
    exact ⟨_, _, rfl, hp, rfl, hrow.read⟩
def Ans.pos (r : Ans) : Nat × Nat := match r with | .ok _ => (0, 0) | .error (p, _) => p
def Ans.toks (r : Ans) : List TokV := match r with | .ok ts => ts | .error _ => []
theorem Told.read {w : World} {r : Ans} {v ev : Value} (h : Told w r v ev) : TRead w v (Ans.toks r) := by
  rcases r with ⟨pos, n⟩ | ts
  · obtain ⟨rfl, -⟩ := h
    exact ⟨none, 0, rfl, ⟨Nat.le_refl _, by simp [Ans.toks]⟩, fun i x hx => by simp [Ans.toks] at hx⟩
  · exact h.2
end Tk
end Go.Proofs.YtigfcchblfnnbaaGreatDoor
