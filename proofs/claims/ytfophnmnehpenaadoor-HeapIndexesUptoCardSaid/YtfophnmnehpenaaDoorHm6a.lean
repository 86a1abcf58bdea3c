/- Layer 8: (*Heap).right, at an object or a builtin. -/
import Derived.Test.YtfophnmnehpenaaDoorHm5
import Derived.Test.YtfophnmnehpenaaDoorHp1
namespace Go.Proofs.YtfophnmnehpenaaDoor
open Go Go.RowKit
set_option linter.all false
set_option maxRecDepth 100000 in
set_option maxHeartbeats 16000000 in
theorem right_ref (s : Hs) (k : Int) (n : Nat) (t : List UInt8) (r : Int) (hk : k = 5 ∨ k = 6) (w : World) (h : HpAt w s) (hx : n < 18446744073709551616) (ht : t.length ≤ 1000000000) :
    Calls Tryd.prog 37 #[.pointer (some ⟨s.h, 0, none⟩), (Va.mk k n t r).v] w fun e w' => e = .returned (.bool (sameB n 0 && (t == []) && decide (0 ≤ r) && (decide (k = 6) || decide (r < s.ps.length)))) ∧ Pur w w' := by
  have c0 := h.cell0
  obtain ⟨a, c, hov, -⟩ := h.rows
  rw [hov] at c0
  clear hov h
  have S := fun w => same_any n 0 hx (by decide) w
  have Qh : ∀ y : PW (w.alloc (.cells #[.int .i64 k, .float .f64 n, .string ⟨t.toArray⟩, .int .i64 r] 33)), y.to.cell? ⟨s.h, 0, none⟩ = some (.slice a s.ps.length c) := fun y =>
    ((((Pur.refl w).alloc _).trans y.pur).cell (World.block_lt_of_cell? w _ c0)).trans c0
  have hN := bk_new w (.cells #[.int .i64 k, .float .f64 n, .string ⟨t.toArray⟩, .int .i64 r] 33)
  have Q0 : ∀ y : PW (w.alloc (.cells #[.int .i64 k, .float .f64 n, .string ⟨t.toArray⟩, .int .i64 r] 33)), y.to.cell? ⟨w.heap.size, 0, none⟩ = some (.int .i64 k) := fun y => bk_cell (bk_pur hN y.pur) 0 _ rfl
  have Q1 : ∀ y : PW (w.alloc (.cells #[.int .i64 k, .float .f64 n, .string ⟨t.toArray⟩, .int .i64 r] 33)), y.to.cell? ⟨w.heap.size, 1, none⟩ = some (.float .f64 n) := fun y => bk_cell (bk_pur hN y.pur) 1 _ rfl
  have Q2 : ∀ y : PW (w.alloc (.cells #[.int .i64 k, .float .f64 n, .string ⟨t.toArray⟩, .int .i64 r] 33)), y.to.cell? ⟨w.heap.size, 2, none⟩ = some (.string ⟨t.toArray⟩) := fun y => bk_cell (bk_pur hN y.pur) 2 _ rfl
  have Q3 : ∀ y : PW (w.alloc (.cells #[.int .i64 k, .float .f64 n, .string ⟨t.toArray⟩, .int .i64 r] 33)), y.to.cell? ⟨w.heap.size, 3, none⟩ = some (.int .i64 r) := fun y => bk_cell (bk_pur hN y.pur) 3 _ rfl
  simp only [Va.v, Va.cells] at *
  generalize s.ps.length = m at *
  generalize s.h = hh at *
  generalize sameB n 0 = b1 at *
  clear hx c0 hN
  rcases b1 with _ | _
  · rcases hk with rfl | rfl
    all_goals
      go_enter Tryd.func37, Tryd.ntmps37
      go_wp2_with fail
      refine wp_region_pur (by kernel_rfl) (by kernel_rfl) ?_
      repeat (go_big_quiet_step (((go_at_call 57; with_reducible exact quiet_eq (S _)))))
      refine wpQuiet_nil ?_
      intro w1 hp
      go_wp2
      go_ret
      exact ⟨by simp [*], ((Pur.refl _).alloc _).trans hp⟩
  · rcases t with _ | ⟨t1, t⟩
    · by_cases r0 : 0 ≤ r
      · rcases hk with rfl | rfl
        · by_cases r2 : r < (m : Int)
          · skip
            have r3 := decide_eq_true r2
            go_enter Tryd.func37, Tryd.ntmps37
            go_wp2_with fail
            refine wp_region_pur (by kernel_rfl) (by kernel_rfl) ?_
            repeat (go_big_quiet_step (((go_at_call 57; with_reducible exact quiet_eq (S _)))))
            refine wpQuiet_nil ?_
            intro w1 hp
            go_wp2
            go_ret
            exact ⟨by simp [*], ((Pur.refl _).alloc _).trans hp⟩
          · skip
            have r3 := decide_eq_false r2
            go_enter Tryd.func37, Tryd.ntmps37
            go_wp2_with fail
            refine wp_region_pur (by kernel_rfl) (by kernel_rfl) ?_
            repeat (go_big_quiet_step (((go_at_call 57; with_reducible exact quiet_eq (S _)))))
            refine wpQuiet_nil ?_
            intro w1 hp
            go_wp2
            go_ret
            exact ⟨by simp [*], ((Pur.refl _).alloc _).trans hp⟩
        · skip
          go_enter Tryd.func37, Tryd.ntmps37
          go_wp2_with fail
          refine wp_region_pur (by kernel_rfl) (by kernel_rfl) ?_
          repeat (go_big_quiet_step (((go_at_call 57; with_reducible exact quiet_eq (S _)))))
          refine wpQuiet_nil ?_
          intro w1 hp
          go_wp2
          go_ret
          exact ⟨by simp [*], ((Pur.refl _).alloc _).trans hp⟩
      · have r1 := decide_eq_false r0
        rcases hk with rfl | rfl
        all_goals
          go_enter Tryd.func37, Tryd.ntmps37
          go_wp2_with fail
          refine wp_region_pur (by kernel_rfl) (by kernel_rfl) ?_
          repeat (go_big_quiet_step (((go_at_call 57; with_reducible exact quiet_eq (S _)))))
          refine wpQuiet_nil ?_
          intro w1 hp
          go_wp2
          go_ret
          exact ⟨by simp [*], ((Pur.refl _).alloc _).trans hp⟩
    · rcases hk with rfl | rfl
      all_goals
        go_enter Tryd.func37, Tryd.ntmps37
        go_wp2_with fail
        refine wp_region_pur (by kernel_rfl) (by kernel_rfl) ?_
        repeat (go_big_quiet_step (((go_at_call 57; with_reducible exact quiet_eq (S _)))))
        refine wpQuiet_nil ?_
        intro w1 hp
        go_wp2
        go_ret
        exact ⟨by simp [*], ((Pur.refl _).alloc _).trans hp⟩
end Go.Proofs.YtfophnmnehpenaaDoor
