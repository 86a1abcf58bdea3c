/- A float as an argument. -/
import Derived.Test.YtciigfaojmpoiaaGreatDoorNmOpen
namespace Go.Proofs.YtciigfaojmpoiaaGreatDoor
open Go Go.RowKit Go.ChangeShapes Go.WideShapes Go.ChangeAt
set_option linter.all false
variable {H : Type} {enc : TypeId × Value → H} {P : Program} {w : World} {base : Nat} {spare : Nat → Bool} {held : Bool}
theorem open_float {r : Reach} {b0 : Nat} {t : TypeId} {v : Value} {d : DataW H} {ps : List MemPlace} (ht : P.underlying t = some (.float .f64)) (hval : Value.okWide P w r b0 t v) (hd : DataW.Trod enc P w base spare held t v d ps) :
    ∃ n : Nat, v = .float .f64 n ∧ d = .lit (.float .f64 n) ∧ ps = [] ∧ n < 18446744073709551616 := by
  have hv : ∃ n : Nat, v = .float .f64 n ∧ n < 18446744073709551616 := by
    simp only [Value.okWide, ht, Cell.okWide] at hval
    cases v <;> simp_all [Cell.ok]
    exact hval.2
  obtain ⟨n, rfl, hn⟩ := hv
  obtain ⟨fuel, hf⟩ := hd
  obtain ⟨m, h, hx⟩ := trod_float ht hf
  simp [Value.cells] at h
  subst h
  simp only [Prod.mk.injEq] at hx
  exact ⟨n, rfl, hx.1, hx.2, hn⟩
end Go.Proofs.YtciigfaojmpoiaaGreatDoor
