/- Layer 4: Whole cuts a number toward 0; a number as a length. -/
import Derived.Test.YtfophnmnehpenaaDoorHmPure
namespace Go.Proofs.YtfophnmnehpenaaDoor
open Go Go.RowKit
set_option linter.all false
theorem datum_self (d : Ieee.Datum) (h : d.order d ≠ some .eq) : ∃ s t, d = .nan s t := by
  cases d with
  | number s m i => exact absurd (by simp [Ieee.Datum.order]) h
  | infinity s => exact absurd (by simp [Ieee.Datum.order]) h
  | nan s t => exact ⟨s, t, rfl⟩
theorem nan_order (s : Bool) (t : Nat) (d : Ieee.Datum) : (Ieee.Datum.nan s t).order d = none := by cases d <;> rfl
theorem trunc_ext (x : Nat) (h : nanB x = false) (w : World) : (Go.Extern.MathFloor.toIntegral "math.archTrunc" .zero #[.float .f64 x]).run Tryd.prog w = .ok (.float .f64 (FloatKind.f64.encode ((FloatKind.f64.decode x).integral .zero))) w := by
  unfold nanB at h
  have e : FloatKind.f64.format.order x x = (FloatKind.f64.decode x).order (FloatKind.f64.decode x) := rfl
  rw [e] at h
  conv => lhs; arg 2; whnf
  rcases hd : FloatKind.f64.decode x with ⟨s, m, i⟩ | s | ⟨s, t⟩
  · rfl
  · rfl
  · rw [hd, nan_order] at h
    simp at h
theorem trunc_any (x : Nat) (h : nanB x = false) (w : World) : Calls Tryd.prog 58 #[.float .f64 x] w fun e w' => e = .returned (.float .f64 (FloatKind.f64.encode ((FloatKind.f64.decode x).integral .zero))) ∧ w = w' := by
  have h6 := @run_callFunc_extern Tryd.prog 64 _ (Go.Extern.MathFloor.toIntegral "math.archTrunc" .zero) Tryd.func64 (by kernel_rfl) (by kernel_rfl) (by kernel_rfl) (by kernel_rfl)
  have fb := trunc_ext x h
  go_enter Tryd.func58, Tryd.ntmps58
  go_wp2
  go_ret
  exact ⟨rfl, rfl⟩
theorem whole_any (x : Nat) (w : World) : Calls Tryd.prog 41 #[.float .f64 x] w fun e w' => e = .returned (.float .f64 (wholeB x)) ∧ w = w' := by
  unfold wholeB
  obtain ⟨b, hb⟩ : ∃ b, nanB x = b := ⟨_, rfl⟩
  have hb' : (FloatKind.f64.format.order x x != some Ordering.eq) = b := hb
  have T := fun hn => trunc_any x hn w
  rw [hb] at T ⊢
  rcases b with _ | _
  · have T' := T rfl
    clear T hb
    go_enter Tryd.func41, Tryd.ntmps41
    go_wp2_with fail
    refine T'.mono ?_
    rintro e w' ⟨rfl, rfl⟩
    go_wp2
    go_ret
    exact ⟨by simp, rfl⟩
  · clear T hb
    go_enter Tryd.func41, Tryd.ntmps41
    go_wp2
    go_ret
    exact ⟨by simp, rfl⟩
end Go.Proofs.YtfophnmnehpenaaDoor
