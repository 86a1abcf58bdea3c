/- Layer 8: the document's Right, of a heap of no objects. -/
import Derived.Test.YtfophnmnehpenaaDoorHs1
namespace Go.Proofs.YtfophnmnehpenaaDoor
open Go Go.RowKit
set_option linter.all false
set_option maxRecDepth 100000 in
theorem nsame_zero (x : Nat) (w : World) : Calls Tryd.prog 45 #[.float .f64 x, .float .f64 0] w fun e w' => e = .returned (.bool (decide (x = 0))) ∧ w = w' := by
  have h6 := @run_callFunc_extern Tryd.prog 59 _ Go.Extern.MathFloatBits.float64bits Tryd.func59 (by kernel_rfl) (by kernel_rfl) (by kernel_rfl) (by kernel_rfl)
  have fb : ∀ w : World, (Go.Extern.MathFloatBits.float64bits #[.float .f64 x]).run Tryd.prog w = .ok (.int .u64 (x : Nat)) w := fun w => rfl
  have fz : ∀ w : World, (Go.Extern.MathFloatBits.float64bits #[.float .f64 0]).run Tryd.prog w = .ok (.int .u64 0) w := fun w => rfl
  have h0 : (FloatKind.f64.format.order 0 0 != some Ordering.eq) = false := by kernel_rfl
  by_cases hx : x = 0
  · subst hx
    go_enter Tryd.func45, Tryd.ntmps45
    go_wp2
    go_ret
    exact ⟨by simp, rfl⟩
  · have hd : decide (x = 0) = false := decide_eq_false hx
    have hI : decide ((x : Int) = 0) = false := decide_eq_false (by omega)
    have hI2 : ¬ (x : Int) = 0 := by omega
    obtain ⟨b, hb⟩ : ∃ b, (FloatKind.f64.format.order x x != some Ordering.eq) = b := ⟨_, rfl⟩
    rw [hd]
    clear hd
    rcases b with _ | _
    all_goals
      go_enter Tryd.func45, Tryd.ntmps45
      go_wp2
      go_ret
      exact ⟨by simp_all, rfl⟩
set_option maxRecDepth 100000 in
theorem rnew_any (w : World) : Calls Tryd.prog 28 #[.int .i64 0] w fun e w' => e = .returned (.pointer (some ⟨w.heap.size, 0, none⟩)) ∧ Pur w w' ∧ w'.heap[w.heap.size]? = some (.cells #[.slice none 0 0, .int .i64 0] 94 (0, 0)) := by
  go_enter Tryd.func28, Tryd.ntmps28
  go_wp2
  go_ret
  exact ⟨rfl, (Pur.refl w).alloc _, bk_new _ _⟩
set_option maxRecDepth 100000 in
theorem has_none (b : Nat) (r : Int) (w : World) (hb : w.heap[b]? = some (.cells #[.slice none 0 0, .int .i64 0] 94 (0, 0))) : Calls Tryd.prog 53 #[.pointer (some ⟨b, 0, none⟩), .int .i64 r] w fun e w' => e = .returned (.bool false) ∧ w = w' := by
  have q0 := bk_cell hb 0 _ rfl
  clear hb
  by_cases hr : 0 ≤ r
  · have hd : decide (r < 0) = false := decide_eq_false (by omega)
    go_enter Tryd.func53, Tryd.ntmps53
    go_wp2
    go_ret
    exact ⟨by simp_all, rfl⟩
  · have hd := decide_eq_false hr
    go_enter Tryd.func53, Tryd.ntmps53
    go_wp2
    go_ret
    exact ⟨rfl, rfl⟩
/-- is a value right, of a heap of no objects? -/
def Va.rightR (x : Va) : Bool :=
  if x.kind = 0 ∨ x.kind = 1 then decide (x.num = 0) && (x.text == []) && decide (x.ref = 0)
  else if x.kind = 2 then (decide (x.num = 0) || eqB x.num 4607182418800017408) && (x.text == []) && decide (x.ref = 0)
  else if x.kind = 3 then (x.text == []) && decide (x.ref = 0)
  else if x.kind = 4 then decide (x.num = 0) && decide (x.ref = 0) && ((x.text.length : Int) % 2 == 0)
  else if x.kind = 5 then false
  else if x.kind = 6 then decide (x.num = 0) && (x.text == []) && decide (0 ≤ x.ref)
  else false
theorem sameB_zero : sameB 0 0 = true := by kernel_rfl
theorem right_of (x : Va) (n : Nat) (h : x.rightR = true) : x.right n = true := by
  unfold Va.rightR at h
  unfold Va.right
  have hz : x.num = 0 → sameB x.num 0 = true := fun e => by rw [e]; exact sameB_zero
  by_cases k0 : x.kind = 0 ∨ x.kind = 1
  · rw [if_pos k0] at h ⊢
    simp only [Bool.and_eq_true, decide_eq_true_eq] at h ⊢
    exact ⟨⟨hz h.1.1, h.1.2⟩, h.2⟩
  · rw [if_neg k0] at h ⊢
    by_cases k2 : x.kind = 2
    · rw [if_pos k2] at h ⊢
      simp only [Bool.and_eq_true, Bool.or_eq_true, decide_eq_true_eq] at h ⊢
      exact ⟨⟨h.1.1.imp hz id, h.1.2⟩, h.2⟩
    · rw [if_neg k2] at h ⊢
      by_cases k3 : x.kind = 3
      · rw [if_pos k3] at h ⊢
        exact h
      · rw [if_neg k3] at h ⊢
        by_cases k4 : x.kind = 4
        · rw [if_pos k4] at h ⊢
          simp only [Bool.and_eq_true, decide_eq_true_eq] at h ⊢
          exact ⟨⟨hz h.1.1, h.1.2⟩, h.2⟩
        · rw [if_neg k4] at h ⊢
          by_cases k5 : x.kind = 5
          · rw [if_pos k5] at h; cases h
          · rw [if_neg k5] at h
            by_cases k6 : x.kind = 6
            · rw [if_pos k6] at h
              rw [if_pos (.inr k6)]
              simp only [Bool.and_eq_true, Bool.or_eq_true, decide_eq_true_eq] at h ⊢
              exact ⟨⟨⟨hz h.1.1, h.1.2⟩, h.2⟩, .inl k6⟩
            · rw [if_neg k6] at h; cases h
end Go.Proofs.YtfophnmnehpenaaDoor
