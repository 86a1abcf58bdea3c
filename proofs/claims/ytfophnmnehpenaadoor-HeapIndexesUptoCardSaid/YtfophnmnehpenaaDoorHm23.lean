/- Layer 8: (*Heap).Put: an array's length. -/
import Derived.Test.YtfophnmnehpenaaDoorHm22
namespace Go.Proofs.YtfophnmnehpenaaDoor
open Go Go.RowKit
set_option linter.all false
set_option maxRecDepth 100000 in
set_option maxHeartbeats 8000000 in
theorem put_len_bad (s : Hs) (i : Int) (x : Ob) (key : List UInt8) (v : Va) (w : World) (h : HpAt w s) {G : Nat} (hok : s.d.Ok G) (hx : s.d.obj i = some x) (hvw : v.wf) (hr : v.right s.d.xs.length = true) (hk : x.kind = 2) (hkl : key = lenKey) (hl : lenOf v = none) :
    Calls Tryd.prog 16 #[.pointer (some ⟨s.h, 0, none⟩), .int .i64 i, .string ⟨key.toArray⟩, v.v] w fun e w' => e = .returned (.int .i64 1) ∧ Left w s w' s.d := by
  obtain ⟨k, n, t, r⟩ := v
  have p1 : Pur w (w.alloc (.cells #[.int .i64 k, .float .f64 n, .string ⟨t.toArray⟩, .int .i64 r] 33)) := (Pur.refl w).alloc _
  obtain ⟨p, hp, hxx, hat, hob⟩ := h.pl hx
  have AT := at_any s i _ (h.pur p1)
  rw [hat] at AT
  have RT := right_any s ⟨k, n, t, r⟩ _ (h.pur p1) hvw.1 hvw.2
  rw [show s.ps.length = s.d.xs.length from h.len.symm, hr] at RT
  have V2 : ∀ w2, Pur (w.alloc (.cells #[.int .i64 k, .float .f64 n, .string ⟨t.toArray⟩, .int .i64 r] 33)) w2 → w2.heap[w.heap.size]? = some (.cells #[.int .i64 k, .float .f64 n, .string ⟨t.toArray⟩, .int .i64 r] 33 (0, 0)) := fun w2 h2 => bk_pur (bk_new _ _) h2
  have O2 : ∀ w2, Pur (w.alloc (.cells #[.int .i64 k, .float .f64 n, .string ⟨t.toArray⟩, .int .i64 r] 33)) w2 → HpAt w2 s ∧ ObIn w2 p x := fun w2 h2 => ⟨h.pur (p1.trans h2), (h.pur (p1.trans h2)).each _ _ _ hp hxx⟩
  have hfin : ∀ w', Pur w w' → Left w s w' s.d := fun w' hpp => ⟨s, h.pur hpp, Step.pur hpp, rfl, fun _ => rfl⟩
  have WH := fun w => whole_any n w
  have hl' := lenOf_none hl
  simp only at hl'
  obtain ⟨b1, e1⟩ : ∃ b1, decide (k = 3) = b1 := ⟨_, rfl⟩
  obtain ⟨b2, e2⟩ : ∃ b2, eqB (wholeB n) n = b2 := ⟨_, rfl⟩
  obtain ⟨b3, e3⟩ : ∃ b3, ltB n 0 = b3 := ⟨_, rfl⟩
  obtain ⟨b4, e4⟩ : ∃ b4, gtB n 4746794007244308480 = b4 := ⟨_, rfl⟩
  have u2 : (FloatKind.f64.format.order (wholeB n) n != some Ordering.eq) = !b2 := congrArg Bool.not e2
  have u3 : (FloatKind.f64.format.order n 0 == some Ordering.lt) = b3 := e3
  have u4 : (FloatKind.f64.format.order n 4746794007244308480 == some Ordering.gt) = b4 := e4
  have hall : b1 = false ∨ b2 = false ∨ b3 = true ∨ b4 = true := by
    rcases hl' with h1 | h1 | h1 | h1
    · exact .inl (by rw [← e1]; exact decide_eq_false h1)
    · exact .inr (.inl (e2.symm.trans h1))
    · exact .inr (.inr (.inl (e3.symm.trans h1)))
    · exact .inr (.inr (.inr (e4.symm.trans h1)))
  simp only [Va.v, Va.cells] at *
  unfold lenKey at hkl
  subst hkl
  clear h hx hp hxx hat hob hr hl hl' hok e2 e3 e4 hvw
  rcases b1 with _ | _ <;> rcases b2 with _ | _ <;> rcases b3 with _ | _ <;> rcases b4 with _ | _ <;> first | (exfalso; revert hall; decide) | skip
  all_goals
    try (have k3 := of_decide_eq_true e1; subst k3)
    try (have n1 : ¬ k = 3 := of_decide_eq_false e1; have n2 : (k != 3) = true := bne_iff_ne.2 n1; have n3 : decide (¬ k = 3) = true := decide_eq_true n1)
    clear hall
    simp only [Bool.not_false, Bool.not_true] at u2
    go_enter Tryd.func16, Tryd.ntmps16
    go_wp2_with fail
    go_wp2_with fail
    refine (AT).mono ?_
    rintro e w2 ⟨rfl, rfl⟩
    go_wp2_with fail
    go_wp2_with fail
    refine (RT).mono ?_
    rintro e w2 ⟨rfl, h2⟩
    have ob := (O2 _ h2).2.own
    rw [hk] at ob
    have q0 := bk_cell ob 0 _ rfl
    have hV := V2 _ h2
    have Z0 : ∀ y : PW w2, y.to.cell? ⟨w.heap.size, 0, none⟩ = some (.int .i64 _) := fun y => bk_cell (bk_pur hV y.pur) 0 _ rfl
    have Z1 : ∀ y : PW w2, y.to.cell? ⟨w.heap.size, 1, none⟩ = some (.float .f64 n) := fun y => bk_cell (bk_pur hV y.pur) 1 _ rfl
    clear O2 V2 ob hV AT RT
    go_wp2_with fail
    refine wp_region_pur (by kernel_rfl) (by kernel_rfl) ?_
    repeat (go_big_quiet_step (((go_at_call 41; with_reducible exact quiet_eq (WH _)))))
    refine wpQuiet_nil ?_
    intro w3 h3
    go_wp2
    go_ret
    exact ⟨rfl, hfin _ ((p1.trans h2).trans h3)⟩
set_option maxRecDepth 100000 in
set_option maxHeartbeats 8000000 in
theorem put_len (s : Hs) (i : Int) (x : Ob) (key : List UInt8) (v : Va) (w : World) (h : HpAt w s) {G : Nat} (hok : s.d.Ok G) (hx : s.d.obj i = some x) (hvw : v.wf) (hr : v.right s.d.xs.length = true) (hk : x.kind = 2) (hkl : key = lenKey) (m : Nat) (hl : lenOf v = some m) :
    Calls Tryd.prog 16 #[.pointer (some ⟨s.h, 0, none⟩), .int .i64 i, .string ⟨key.toArray⟩, v.v] w fun e w' => e = .returned (.int .i64 (s.d.resize i x m).1) ∧ Left w s w' (s.d.resize i x m).2 := by
  obtain ⟨k, n, t, r⟩ := v
  have p1 : Pur w (w.alloc (.cells #[.int .i64 k, .float .f64 n, .string ⟨t.toArray⟩, .int .i64 r] 33)) := (Pur.refl w).alloc _
  obtain ⟨p, hp, hxx, hat, hob⟩ := h.pl hx
  have AT := at_any s i _ (h.pur p1)
  rw [hat] at AT
  have RT := right_any s ⟨k, n, t, r⟩ _ (h.pur p1) hvw.1 hvw.2
  rw [show s.ps.length = s.d.xs.length from h.len.symm, hr] at RT
  have V2 : ∀ w2, Pur (w.alloc (.cells #[.int .i64 k, .float .f64 n, .string ⟨t.toArray⟩, .int .i64 r] 33)) w2 → w2.heap[w.heap.size]? = some (.cells #[.int .i64 k, .float .f64 n, .string ⟨t.toArray⟩, .int .i64 r] 33 (0, 0)) := fun w2 h2 => bk_pur (bk_new _ _) h2
  have O2 : ∀ w2, Pur (w.alloc (.cells #[.int .i64 k, .float .f64 n, .string ⟨t.toArray⟩, .int .i64 r] 33)) w2 → HpAt w2 s ∧ ObIn w2 p x := fun w2 h2 => ⟨h.pur (p1.trans h2), (h.pur (p1.trans h2)).each _ _ _ hp hxx⟩
  have WH := fun w => whole_any n w
  obtain ⟨k3, e2, e3, e4, e5, hm⟩ := lenOf_some hl
  simp only at k3 e2 e3 e4 e5
  subst k3
  have u2 : (FloatKind.f64.format.order (wholeB n) n != some Ordering.eq) = false := congrArg Bool.not e2
  have u3 : (FloatKind.f64.format.order n 0 == some Ordering.lt) = false := e3
  have u4 : (FloatKind.f64.format.order n 4746794007244308480 == some Ordering.gt) = false := e4
  have RS := fun w3 (hp3 : Pur w w3) => resize_any s i x p.o m w3 (h.pur hp3) hx hat (by omega) hok
  have lo : IntKind.i64.min ≤ (m : Int) ∧ (m : Int) ≤ IntKind.i64.max := by simp [IntKind.min, IntKind.max, IntKind.signed, IntKind.bits]; omega
  have cv : ∀ w : World, (Conv.floatToInt .f64 n .i64).run Tryd.prog w = .ok (.int .i64 m) w := fun w => by
    unfold Conv.floatToInt
    rw [e5]
    simp only [lo.1, lo.2, and_self, if_true]
    rfl
  have cv2 : ∀ w : World, (convert 31 3 (.float .f64 n)).run Tryd.prog w = .ok (.int .i64 m) w := fun w => (show _ = (Conv.floatToInt .f64 n .i64).run Tryd.prog w from rfl).trans (cv w)
  clear cv
  simp only [Va.v, Va.cells] at *
  unfold lenKey at hkl
  subst hkl
  generalize s.d.resize i x m = R at *
  clear h hx hp hxx hat hob hr hl hok e2 e3 e4 hvw e5 lo hm
  go_enter Tryd.func16, Tryd.ntmps16
  go_wp2_with fail
  go_wp2_with fail
  refine (AT).mono ?_
  rintro e w2 ⟨rfl, rfl⟩
  go_wp2_with fail
  go_wp2_with fail
  refine (RT).mono ?_
  rintro e w2 ⟨rfl, h2⟩
  have ob := (O2 _ h2).2.own
  rw [hk] at ob
  have q0 := bk_cell ob 0 _ rfl
  have hV := V2 _ h2
  have Z0 : ∀ y : PW w2, y.to.cell? ⟨w.heap.size, 0, none⟩ = some (.int .i64 3) := fun y => bk_cell (bk_pur hV y.pur) 0 _ rfl
  have Z1 : ∀ y : PW w2, y.to.cell? ⟨w.heap.size, 1, none⟩ = some (.float .f64 n) := fun y => bk_cell (bk_pur hV y.pur) 1 _ rfl
  clear O2 V2 ob AT RT
  go_wp2_with fail
  refine wp_region_pur (by kernel_rfl) (by kernel_rfl) ?_
  repeat (go_big_quiet_step (((go_at_call 41; with_reducible exact quiet_eq (WH _)))))
  refine wpQuiet_nil ?_
  intro w3 h3
  have z1 := bk_cell (bk_pur hV h3) 1 _ rfl
  have p3 := (p1.trans h2).trans h3
  have RS' := RS _ p3
  clear RS Z0 Z1 hV q0
  go_wp2_with fail
  refine RS'.mono ?_
  rintro e w4 ⟨rfl, hL⟩
  go_wp2
  go_ret
  exact ⟨rfl, hL.after p3⟩
end Go.Proofs.YtfophnmnehpenaaDoor
