/- Equality of structs, field by field, by value. -/
import Derived.Test.YtaknfofppknloaaDoorBase
import Derived.Laws.StructEq
namespace Go.Proofs.YtaknfofppknloaaDoor
open Go Go.RowKit
set_option linter.all false
section
variable {P : Program} {w : World}
theorem eqFields_nil (d : Nat) (xs ys : Array Value) : (Op.eqFields d xs ys []).run P w = .ok true w := rfl
theorem eqFields_cons {d : Nat} {xs ys : Array Value} {f : Field} {fs : List Field} {a b : Value} {r R : Bool} (hn : f.name ≠ "_")
    (ha : (part f.type xs f.offset).run P w = .ok a w) (hb : (part f.type ys f.offset).run P w = .ok b w) (hr : (Op.equalIn d f.type a b).run P w = .ok r w)
    (hR : (Op.eqFields d xs ys fs).run P w = .ok R w) : (Op.eqFields d xs ys (f :: fs)).run P w = .ok (r && R) w := by
  simp only [Op.eqFields]
  rw [if_pos hn]
  simp only [Sem.run_bind, ha, Result.andThen_ok, hb, hr, Sem.run_ite]
  cases r with
  | false => simp
  | true => simpa using hR
theorem eq_str_in (d : Nat) (t : TypeId) (x y : List UInt8) (h : P.underlying t = some .string) : (Op.equalIn (d + 1) t (.string ⟨x.toArray⟩) (.string ⟨y.toArray⟩)).run P w = .ok (decide (x = y)) w := by
  rw [run_equalIn_string w d t _ _ h, ByteArray.toList_eq, ByteArray.toList_eq]
  congr 1
  by_cases hxy : x = y
  · subst hxy; simp
  · have : (x == y) = false := by simpa using hxy
    simp [hxy]
theorem eq_int_in (d : Nat) (t : TypeId) (k k' : IntKind) (x y : Int) (h : P.underlying t = some (.int k')) : (Op.equalIn (d + 1) t (.int k x) (.int k y)).run P w = .ok (decide (x = y)) w := by
  rw [run_equalIn_int w d t k k' x y h]
  congr 1
end
end Go.Proofs.YtaknfofppknloaaDoor
