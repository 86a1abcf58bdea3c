/- Layer 8: (*Heap).right. -/
import Derived.Test.YtfophnmnehpenaaDoorHm6a
namespace Go.Proofs.YtfophnmnehpenaaDoor
open Go Go.RowKit
set_option linter.all false
set_option maxRecDepth 100000 in
set_option maxHeartbeats 4000000 in
theorem right_any (s : Hs) (x : Va) (w : World) (h : HpAt w s) (hx : x.num < 18446744073709551616) (ht : x.text.length ≤ 1000000000) :
    Calls Tryd.prog 37 #[.pointer (some ⟨s.h, 0, none⟩), x.v] w fun e w' => e = .returned (.bool (x.right s.ps.length)) ∧ Pur w w' := by
  obtain ⟨k, n, t, r⟩ := x
  have R5 := fun hk => right_ref s k n t r hk w h hx ht
  have c0 := h.cell0
  obtain ⟨a, c, hov, -⟩ := h.rows
  rw [hov] at c0
  clear hov h
  have S := fun w => same_any n 0 hx (by decide) w
  have c0' := fun (o : Obj) => (((Pur.refl w).alloc o).cell (World.block_lt_of_cell? w _ c0)).trans c0
  simp only [Va.v, Va.cells, Va.right] at *
  generalize s.ps.length = m at *
  generalize s.h = hh at *
  have u3 : (FloatKind.f64.format.order n 4607182418800017408 == some Ordering.eq) = eqB n 4607182418800017408 := rfl
  generalize sameB n 0 = b1 at *
  generalize eqB n 4607182418800017408 = b2 at *
  clear hx
  by_cases k0 : k = 0
  · subst k0
    clear R5
    rcases b1 with _ | _ <;> rcases t with _ | ⟨t1, t⟩ <;> by_cases r0 : r = 0
    all_goals
      try have r1 := decide_eq_false r0
      go_enter Tryd.func37, Tryd.ntmps37
      go_wp2_with (go_at_call 57; refine (S _).mono ?_; rintro e w' ⟨rfl, rfl⟩)
      go_ret
      exact ⟨by simp_all, (Pur.refl _).alloc _⟩
  by_cases k1 : k = 1
  · subst k1
    clear R5
    rcases b1 with _ | _ <;> rcases t with _ | ⟨t1, t⟩ <;> by_cases r0 : r = 0
    all_goals
      try have r1 := decide_eq_false r0
      go_enter Tryd.func37, Tryd.ntmps37
      go_wp2_with (go_at_call 57; refine (S _).mono ?_; rintro e w' ⟨rfl, rfl⟩)
      go_ret
      exact ⟨by simp_all, (Pur.refl _).alloc _⟩
  by_cases k2 : k = 2
  · subst k2
    clear R5
    rcases b1 with _ | _ <;> rcases hb2 : b2 with _ | _ <;> rcases t with _ | ⟨t1, t⟩ <;> by_cases r0 : r = 0
    all_goals
      try have r1 := decide_eq_false r0
      go_enter Tryd.func37, Tryd.ntmps37
      go_wp2_with (go_at_call 57; refine (S _).mono ?_; rintro e w' ⟨rfl, rfl⟩)
      go_ret
      exact ⟨by simp_all, (Pur.refl _).alloc _⟩
  by_cases k3 : k = 3
  · subst k3
    clear R5
    rcases t with _ | ⟨t1, t⟩ <;> by_cases r0 : r = 0
    all_goals
      try have r1 := decide_eq_false r0
      go_enter Tryd.func37, Tryd.ntmps37
      go_wp2_with (go_at_call 57; refine (S _).mono ?_; rintro e w' ⟨rfl, rfl⟩)
      go_ret
      exact ⟨by simp_all, (Pur.refl _).alloc _⟩
  by_cases k4 : k = 4
  · subst k4
    clear R5
    rcases b1 with _ | _ <;> by_cases r0 : r = 0
    all_goals
      try have r1 := decide_eq_false r0
      go_enter Tryd.func37, Tryd.ntmps37
      go_wp2_with (go_at_call 57; refine (S _).mono ?_; rintro e w' ⟨rfl, rfl⟩)
      go_ret
      exact ⟨by simp_all, (Pur.refl _).alloc _⟩
  by_cases k5 : k = 5 ∨ k = 6
  · have R := R5 k5
    rw [if_neg (by omega), if_neg k2, if_neg k3, if_neg k4, if_pos k5]
    exact R
  rw [if_neg (by omega), if_neg k2, if_neg k3, if_neg k4, if_neg k5]
  have k6 : k ≠ 6 := fun e => k5 (.inr e)
  have k7 : k ≠ 5 := fun e => k5 (.inl e)
  clear k5 R5
  go_enter Tryd.func37, Tryd.ntmps37
  go_wp2_with fail
  go_ret
  exact ⟨rfl, (Pur.refl _).alloc _⟩
end Go.Proofs.YtfophnmnehpenaaDoor
