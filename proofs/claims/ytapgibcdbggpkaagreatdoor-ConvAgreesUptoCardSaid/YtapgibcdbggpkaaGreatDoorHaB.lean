/- Layer 8: (*Heap).right, at an object or a builtin. Layer 8: (*Heap).right. Layer 8: (*Heap).Array. Layer 8: (*Heap).Own. Layer 8: (*Heap).Own: no object; a property. Layer 8: (*Heap).Own: an array's item, or its property. Layer 8: (*Heap).Own: an array's item. Layer 8: (*Heap).Own: an array's property. Layer 8: (*Heap).Own, whole. Layer 8: (*Heap).holder, (*Heap).Get. Layer 8: (*Heap).Get. -/
import Derived.Test.YtapgibcdbggpkaaGreatDoorHaA
import Derived.Test.YtapgibcdbggpkaaGreatDoorHpA
import Derived.Test.YtapgibcdbggpkaaGreatDoorHpB
import Derived.Maps.OwnSet
namespace Go.Proofs.YtapgibcdbggpkaaGreatDoor
open Go Go.RowKit
set_option linter.all false
set_option maxRecDepth 100000 in
set_option maxHeartbeats 16000000 in
theorem right_ref (s : Hs) (k : Int) (n : Nat) (t : List UInt8) (r : Int) (hk : k = 5 ∨ k = 6) (w : World) (h : HpAt w s) (hx : n < 18446744073709551616) (ht : t.length ≤ 1000000000) :
    Calls Tryz.prog 37 #[.pointer (some ⟨s.h, 0, none⟩), (Va.mk k n t r).v] w fun e w' => e = .returned (.bool (sameB n 0 && (t == []) && decide (0 ≤ r) && (decide (k = 6) || decide (r < s.ps.length)))) ∧ Pur w w' := by
  have c0 := h.cell0
  obtain ⟨a, c, hov, -⟩ := h.rows
  rw [hov] at c0
  clear hov h
  have S := fun w => same_any n 0 hx (by decide) w
  have Qh : ∀ y : PW (w.alloc (.cells #[.int .i64 k, .float .f64 n, .string ⟨t.toArray⟩, .int .i64 r] 25)), y.to.cell? ⟨s.h, 0, none⟩ = some (.slice a s.ps.length c) := fun y =>
    ((((Pur.refl w).alloc _).trans y.pur).cell (World.block_lt_of_cell? w _ c0)).trans c0
  have hN := bk_new w (.cells #[.int .i64 k, .float .f64 n, .string ⟨t.toArray⟩, .int .i64 r] 25)
  have Q0 : ∀ y : PW (w.alloc (.cells #[.int .i64 k, .float .f64 n, .string ⟨t.toArray⟩, .int .i64 r] 25)), y.to.cell? ⟨w.heap.size, 0, none⟩ = some (.int .i64 k) := fun y => bk_cell (bk_pur hN y.pur) 0 _ rfl
  have Q1 : ∀ y : PW (w.alloc (.cells #[.int .i64 k, .float .f64 n, .string ⟨t.toArray⟩, .int .i64 r] 25)), y.to.cell? ⟨w.heap.size, 1, none⟩ = some (.float .f64 n) := fun y => bk_cell (bk_pur hN y.pur) 1 _ rfl
  have Q2 : ∀ y : PW (w.alloc (.cells #[.int .i64 k, .float .f64 n, .string ⟨t.toArray⟩, .int .i64 r] 25)), y.to.cell? ⟨w.heap.size, 2, none⟩ = some (.string ⟨t.toArray⟩) := fun y => bk_cell (bk_pur hN y.pur) 2 _ rfl
  have Q3 : ∀ y : PW (w.alloc (.cells #[.int .i64 k, .float .f64 n, .string ⟨t.toArray⟩, .int .i64 r] 25)), y.to.cell? ⟨w.heap.size, 3, none⟩ = some (.int .i64 r) := fun y => bk_cell (bk_pur hN y.pur) 3 _ rfl
  simp only [Va.v, Va.cells] at *
  generalize s.ps.length = m at *
  generalize s.h = hh at *
  generalize sameB n 0 = b1 at *
  clear hx c0 hN
  rcases b1 with _ | _
  · rcases hk with rfl | rfl
    all_goals
      go_enter Tryz.func37, Tryz.ntmps37
      go_wp2_with fail
      refine wp_region_pur (by kernel_rfl) (by kernel_rfl) ?_
      repeat (go_big_quiet_step (((go_at_call 60; with_reducible exact quiet_eq (S _)))))
      refine wpQuiet_nil ?_
      intro w1 hp
      go_wp2
      go_ret
      exact ⟨by simp [*], ((Pur.refl _).alloc _).trans hp⟩
  · rcases t with _ | ⟨t1, t⟩
    · by_cases r0 : 0 ≤ r
      · rcases hk with rfl | rfl
        · by_cases r2 : r < (m : Int)
          · skip
            have r3 := decide_eq_true r2
            go_enter Tryz.func37, Tryz.ntmps37
            go_wp2_with fail
            refine wp_region_pur (by kernel_rfl) (by kernel_rfl) ?_
            repeat (go_big_quiet_step (((go_at_call 60; with_reducible exact quiet_eq (S _)))))
            refine wpQuiet_nil ?_
            intro w1 hp
            go_wp2
            go_ret
            exact ⟨by simp [*], ((Pur.refl _).alloc _).trans hp⟩
          · skip
            have r3 := decide_eq_false r2
            go_enter Tryz.func37, Tryz.ntmps37
            go_wp2_with fail
            refine wp_region_pur (by kernel_rfl) (by kernel_rfl) ?_
            repeat (go_big_quiet_step (((go_at_call 60; with_reducible exact quiet_eq (S _)))))
            refine wpQuiet_nil ?_
            intro w1 hp
            go_wp2
            go_ret
            exact ⟨by simp [*], ((Pur.refl _).alloc _).trans hp⟩
        · skip
          go_enter Tryz.func37, Tryz.ntmps37
          go_wp2_with fail
          refine wp_region_pur (by kernel_rfl) (by kernel_rfl) ?_
          repeat (go_big_quiet_step (((go_at_call 60; with_reducible exact quiet_eq (S _)))))
          refine wpQuiet_nil ?_
          intro w1 hp
          go_wp2
          go_ret
          exact ⟨by simp [*], ((Pur.refl _).alloc _).trans hp⟩
      · have r1 := decide_eq_false r0
        rcases hk with rfl | rfl
        all_goals
          go_enter Tryz.func37, Tryz.ntmps37
          go_wp2_with fail
          refine wp_region_pur (by kernel_rfl) (by kernel_rfl) ?_
          repeat (go_big_quiet_step (((go_at_call 60; with_reducible exact quiet_eq (S _)))))
          refine wpQuiet_nil ?_
          intro w1 hp
          go_wp2
          go_ret
          exact ⟨by simp [*], ((Pur.refl _).alloc _).trans hp⟩
    · rcases hk with rfl | rfl
      all_goals
        go_enter Tryz.func37, Tryz.ntmps37
        go_wp2_with fail
        refine wp_region_pur (by kernel_rfl) (by kernel_rfl) ?_
        repeat (go_big_quiet_step (((go_at_call 60; with_reducible exact quiet_eq (S _)))))
        refine wpQuiet_nil ?_
        intro w1 hp
        go_wp2
        go_ret
        exact ⟨by simp [*], ((Pur.refl _).alloc _).trans hp⟩
end Go.Proofs.YtapgibcdbggpkaaGreatDoor
namespace Go.Proofs.YtapgibcdbggpkaaGreatDoor
open Go Go.RowKit
set_option linter.all false
set_option maxRecDepth 100000 in
set_option maxHeartbeats 4000000 in
theorem right_any (s : Hs) (x : Va) (w : World) (h : HpAt w s) (hx : x.num < 18446744073709551616) (ht : x.text.length ≤ 1000000000) :
    Calls Tryz.prog 37 #[.pointer (some ⟨s.h, 0, none⟩), x.v] w fun e w' => e = .returned (.bool (x.right s.ps.length)) ∧ Pur w w' := by
  obtain ⟨k, n, t, r⟩ := x
  have R5 := fun hk => right_ref s k n t r hk w h hx ht
  have c0 := h.cell0
  obtain ⟨a, c, hov, -⟩ := h.rows
  rw [hov] at c0
  clear hov h
  have S := fun w => same_any n 0 hx (by decide) w
  have c0' := fun (o : Obj) => (((Pur.refl w).alloc o).cell (World.block_lt_of_cell? w _ c0)).trans c0
  simp only [Va.v, Va.cells, Va.right] at *
  generalize s.ps.length = m at *
  generalize s.h = hh at *
  have u3 : (FloatKind.f64.format.order n 4607182418800017408 == some Ordering.eq) = eqB n 4607182418800017408 := rfl
  generalize sameB n 0 = b1 at *
  generalize eqB n 4607182418800017408 = b2 at *
  clear hx
  by_cases k0 : k = 0
  · subst k0
    clear R5
    rcases b1 with _ | _ <;> rcases t with _ | ⟨t1, t⟩ <;> by_cases r0 : r = 0
    all_goals
      try have r1 := decide_eq_false r0
      go_enter Tryz.func37, Tryz.ntmps37
      go_wp2_with (go_at_call 60; refine (S _).mono ?_; rintro e w' ⟨rfl, rfl⟩)
      go_ret
      exact ⟨by simp_all, (Pur.refl _).alloc _⟩
  by_cases k1 : k = 1
  · subst k1
    clear R5
    rcases b1 with _ | _ <;> rcases t with _ | ⟨t1, t⟩ <;> by_cases r0 : r = 0
    all_goals
      try have r1 := decide_eq_false r0
      go_enter Tryz.func37, Tryz.ntmps37
      go_wp2_with (go_at_call 60; refine (S _).mono ?_; rintro e w' ⟨rfl, rfl⟩)
      go_ret
      exact ⟨by simp_all, (Pur.refl _).alloc _⟩
  by_cases k2 : k = 2
  · subst k2
    clear R5
    rcases b1 with _ | _ <;> rcases hb2 : b2 with _ | _ <;> rcases t with _ | ⟨t1, t⟩ <;> by_cases r0 : r = 0
    all_goals
      try have r1 := decide_eq_false r0
      go_enter Tryz.func37, Tryz.ntmps37
      go_wp2_with (go_at_call 60; refine (S _).mono ?_; rintro e w' ⟨rfl, rfl⟩)
      go_ret
      exact ⟨by simp_all, (Pur.refl _).alloc _⟩
  by_cases k3 : k = 3
  · subst k3
    clear R5
    rcases t with _ | ⟨t1, t⟩ <;> by_cases r0 : r = 0
    all_goals
      try have r1 := decide_eq_false r0
      go_enter Tryz.func37, Tryz.ntmps37
      go_wp2_with (go_at_call 60; refine (S _).mono ?_; rintro e w' ⟨rfl, rfl⟩)
      go_ret
      exact ⟨by simp_all, (Pur.refl _).alloc _⟩
  by_cases k4 : k = 4
  · subst k4
    clear R5
    rcases b1 with _ | _ <;> by_cases r0 : r = 0
    all_goals
      try have r1 := decide_eq_false r0
      go_enter Tryz.func37, Tryz.ntmps37
      go_wp2_with (go_at_call 60; refine (S _).mono ?_; rintro e w' ⟨rfl, rfl⟩)
      go_ret
      exact ⟨by simp_all, (Pur.refl _).alloc _⟩
  by_cases k5 : k = 5 ∨ k = 6
  · have R := R5 k5
    rw [if_neg (by omega), if_neg k2, if_neg k3, if_neg k4, if_pos k5]
    exact R
  rw [if_neg (by omega), if_neg k2, if_neg k3, if_neg k4, if_neg k5]
  have k6 : k ≠ 6 := fun e => k5 (.inr e)
  have k7 : k ≠ 5 := fun e => k5 (.inl e)
  clear k5 R5
  go_enter Tryz.func37, Tryz.ntmps37
  go_wp2_with fail
  go_ret
  exact ⟨rfl, (Pur.refl _).alloc _⟩
end Go.Proofs.YtapgibcdbggpkaaGreatDoor
namespace Go.Proofs.YtapgibcdbggpkaaGreatDoor
open Go Go.RowKit
set_option linter.all false
def Hd.array (d : Hd) (vs : List Va) : (Int × Int) × Hd := if vs.all (Va.right d.xs.length) = true then d.add (Ob.fresh 2 (-1) 0 0 0 vs) (1 + vs.length) else ((0, 1), d)
theorem Hd.Ok.array {G : Nat} {d : Hd} (h : d.Ok G) (vs : List Va) : (d.array vs).2.Ok G := by
  unfold Hd.array
  split
  · exact h.add _ _ (by simp [Ob.cost, Ob.fresh]) (Ob.fresh_ok _ _ _ _ _ _ _ (by omega))
  · exact h
theorem VRead.each {w : World} {v : Value} {vs : List Va} (h : VRead w v vs) : ∃ a c, v = .slice a vs.length c ∧ ∀ (n : Nat) x, vs[n]? = some x → ∃ b o, a = some ⟨b, o, none⟩ ∧ b < w.heap.size ∧ ∀ (i : Nat) u, x.cells[i]? = some u → w.cell? ⟨b, o + n * 4 + i, none⟩ = some u := by
  rcases h with ⟨rfl, rfl⟩ | ⟨b, o, c, rfl, hb, hc⟩
  · exact ⟨none, 0, rfl, fun n x hx => by simp at hx⟩
  · refine ⟨_, c, rfl, fun n x hx => ⟨b, o, rfl, hb, fun i u hu => ?_⟩⟩
    have := hc _ _ (va_at vs n x hx i u hu)
    rw [← Nat.add_assoc] at this
    exact this
set_option maxRecDepth 100000 in
set_option maxHeartbeats 4000000 in
theorem array_any (s : Hs) (v : Value) (vs : List Va) (w : World) (h : HpAt w s) (hv : VRead w v vs) (hwf : ∀ x ∈ vs, x.wf) (hn : vs.length ≤ 1000000) {G : Nat} (hok : s.d.Ok G) :
    Calls Tryz.prog 12 #[.pointer (some ⟨s.h, 0, none⟩), v] w fun e w' =>
      e = .returned (.tuple #[.int .i64 (s.d.array vs).1.1, .int .i64 (s.d.array vs).1.2]) ∧ ∃ s', HpAt w' s' ∧ Step w s w' s' ∧ s'.d = (s.d.array vs).2 := by
  have hlen : s.d.xs.length = s.ps.length := h.len
  obtain ⟨a, c, rfl, hC⟩ := hv.each
  obtain ⟨R, hR⟩ : ∃ R, s.d.array vs = R := ⟨_, rfl⟩
  rw [hR]
  unfold Hd.array at hR
  rw [hlen] at hR
  have HR0 := Lib.hid hR
  clear hR
  go_enter Tryz.func12, Tryz.ntmps12
  go_wp2
  go_loopw [10] (fun i wr => ∃ n : Nat, n ≤ vs.length ∧ i = .int .i64 n ∧ Pur w wr ∧ Hid (∀ x ∈ vs.take n, x.right s.ps.length = true)) (fun i _ => vs.length + 1 - (intOf i).toNat)
  case atStart => exact ⟨0, by omega, rfl, Pur.refl w, Lib.hid (by simp)⟩
  case round =>
    obtain ⟨n, hnl, rfl, hpr, HR⟩ := hrel
    by_cases hlt : n < vs.length
    · have hlt' : (n : Int) < vs.length := by omega
      have hn0 : (0 : Int) ≤ n := by omega
      obtain ⟨x, hx⟩ : ∃ x, vs[n]? = some x := ⟨_, List.getElem?_eq_getElem hlt⟩
      have hxw := hwf x (List.mem_of_getElem? hx)
      obtain ⟨b, o, ha, hb, hcell⟩ := hC n x hx
      have k0 := (hpr.cell (p := ⟨b, o + n * 4 + 0, none⟩) hb).trans (hcell 0 _ rfl)
      have k1 := (hpr.cell (p := ⟨b, o + n * 4 + 1, none⟩) hb).trans (hcell 1 _ rfl)
      have k2 := (hpr.cell (p := ⟨b, o + n * 4 + 2, none⟩) hb).trans (hcell 2 _ rfl)
      have k3 := (hpr.cell (p := ⟨b, o + n * 4 + 3, none⟩) hb).trans (hcell 3 _ rfl)
      rw [Nat.add_zero] at k0
      subst ha
      have RT := fun (wx : World) (hw : HpAt wx s) => right_any s x wx hw hxw.1 hxw.2
      have hr := h.pur hpr
      have hfin : ∀ wx, Pur w wx → ∃ s', HpAt wx s' ∧ Step w s wx s' ∧ s'.d = s.d := fun wx hp => ⟨s, h.pur hp, Step.pur hp, rfl⟩
      have HT : Hid (vs.take (n + 1) = vs.take n ++ [x]) := Lib.hid (by rw [List.take_add_one, hx]; rfl)
      have HX : Hid (x ∈ vs) := Lib.hid (List.mem_of_getElem? hx)
      clear hcell hC hwf hxw
      obtain ⟨bx, hbx⟩ : ∃ bx, x.right s.ps.length = bx := ⟨_, rfl⟩
      rw [hbx] at RT
      obtain ⟨kk, nn, tt, rr⟩ := x
      simp only [Va.v, Va.cells] at RT
      go_wp2_with fail
      refine (RT _ (hr.pur ?hp1)).mono ?_
      case hp1 => exact (Pur.refl _).alloc _
      rintro e w2 ⟨rfl, h2⟩
      have hp2 := (hpr.trans ((Pur.refl wr).alloc (.cells #[.int .i64 kk, .float .f64 nn, .string ⟨tt.toArray⟩, .int .i64 rr] 25))).trans h2
      have hfin2 := hfin _ hp2
      clear k0 k1 k2 k3 RT hr hfin hok h2 hpr
      rcases bx with _ | _
      · have HN : ¬ vs.all (Va.right s.ps.length) = true := fun ha => by
          rw [List.all_eq_true.1 ha _ HX.out] at hbx
          cases hbx
        have e := HR0.out
        rw [if_neg HN] at e
        subst e
        go_wp2
        go_ret2
        exact ⟨rfl, hfin2⟩
      · go_wp2
        go_roundw
        case rel =>
          refine ⟨n + 1, by omega, by go_num, hp2, Lib.hid (fun y hy => ?_)⟩
          rw [HT.out] at hy
          rcases List.mem_append.1 hy with hy | hy
          · exact HR.out y hy
          · rw [List.mem_singleton.1 hy]; exact hbx
        case measure => simp [intOf]; omega
    · obtain rfl : n = vs.length := by omega
      have HA : vs.all (Va.right s.ps.length) = true := List.all_eq_true.2 (fun y hy => HR.out y (by rw [List.take_length]; exact hy))
      have e := HR0.out
      rw [if_pos HA] at e
      have CL := clone_any _ vs wr (hv.pur hpr) hn
      clear hC hwf HA HR hlen HR0
      have AD := fun (v' : Value) (w3 : World) (hp : Pur w w3) (hrow : w3.ownsRow w.heap.size 25 4 v' vs.length (vs.flatMap Va.cells)) =>
        add_new s (Ob.fresh 2 (-1) 0 0 0 vs) (.slice none 0 0) v' (.map none) (1 + vs.length) w (w3.alloc (.cells #[.int .i64 2, .int .i64 (-1), .int .i64 0, .int .i64 0, .int .i64 0, .slice none 0 0, .map none, v'] 86)) w3.heap.size (hp.alloc _) hp.size h (bk_new _ _) rfl rfl rfl
          (hrow.alloc _) (fun e => by have := (hrow.lt _ e).2; omega) (by omega) hok
      rw [e] at AD
      clear e
      have wr1 : IntKind.i64.wrap (1 + (vs.length : Int)) = 1 + vs.length := IntWalk.i64_in _ (by omega)
      go_wp2_with fail
      refine CL.mono ?_
      rintro e w3 ⟨v', rfl, h3, hrow⟩
      have AD' := AD v' w3 (hpr.trans h3) (row_low hrow hpr.size)
      obtain ⟨a3, c3, rfl⟩ := row_shape hrow
      clear AD CL hrow
      go_wp2_with fail
      refine AD'.mono ?_
      rintro e w' ⟨rfl, hw⟩
      go_wp2
      go_ret2
      exact ⟨rfl, hw⟩
end Go.Proofs.YtapgibcdbggpkaaGreatDoor
namespace Go.Proofs.YtapgibcdbggpkaaGreatDoor
open Go Go.RowKit
set_option linter.all false
end Go.Proofs.YtapgibcdbggpkaaGreatDoor
namespace Go.Proofs.YtapgibcdbggpkaaGreatDoor
open Go Go.RowKit
set_option linter.all false
theorem zero_va (w : World) : (zeroValue 25).run Tryz.prog w = .ok Va.zero.v w := by kernel_rfl
theorem va_law : Go.Maps.Keyed Tryz.prog 9 := Go.Maps.string_keyed Tryz.underlying9

end Go.Proofs.YtapgibcdbggpkaaGreatDoor
namespace Go.Proofs.YtapgibcdbggpkaaGreatDoor
open Go Go.RowKit
set_option linter.all false
theorem item_cell {w : World} {v : Value} {vs : List Va} (h : VRead w v vs) {n : Nat} {x : Va} (hx : vs[n]? = some x) : ∃ b o c, v = .slice (some ⟨b, o, none⟩) vs.length c ∧ b < w.heap.size ∧ ∀ (i : Nat) u, x.cells[i]? = some u → w.cell? ⟨b, o + (n * 4 + i), none⟩ = some u := by
  rcases h with ⟨rfl, rfl⟩ | ⟨b, o, c, rfl, hb, hc⟩
  · simp at hx
  · refine ⟨b, o, c, rfl, hb, fun i u hu => hc _ _ ?_⟩
    have hl := (List.getElem?_eq_some_iff.1 hx).1
    clear hc hb
    induction vs generalizing n with
    | nil => simp at hx
    | cons g vs ih =>
      cases n with
      | zero =>
        obtain rfl : g = x := by simpa using hx
        have hi := (List.getElem?_eq_some_iff.1 hu).1
        rw [List.flatMap_cons, Nat.zero_mul, Nat.zero_add, List.getElem?_append_left hi, hu]
      | succ n =>
        have := ih (n := n) (by simpa using hx) (by simp at hl; omega)
        have hl4 : g.cells.length = 4 := rfl
        rw [List.flatMap_cons, List.getElem?_append_right (by rw [hl4, Nat.succ_mul]; omega), hl4]
        rw [show (n + 1) * 4 + i - 4 = n * 4 + i by rw [Nat.succ_mul]; omega]
        exact this
theorem eqkey_no {l m : List UInt8} (h : ¬ l = m) : (l == m) = false := by simpa using h
end Go.Proofs.YtapgibcdbggpkaaGreatDoor
namespace Go.Proofs.YtapgibcdbggpkaaGreatDoor
open Go Go.RowKit
set_option linter.all false
end Go.Proofs.YtapgibcdbggpkaaGreatDoor
namespace Go.Proofs.YtapgibcdbggpkaaGreatDoor
open Go Go.RowKit
set_option linter.all false
end Go.Proofs.YtapgibcdbggpkaaGreatDoor
namespace Go.Proofs.YtapgibcdbggpkaaGreatDoor
open Go Go.RowKit
set_option linter.all false

end Go.Proofs.YtapgibcdbggpkaaGreatDoor
namespace Go.Proofs.YtapgibcdbggpkaaGreatDoor
open Go Go.RowKit
set_option linter.all false
end Go.Proofs.YtapgibcdbggpkaaGreatDoor
namespace Go.Proofs.YtapgibcdbggpkaaGreatDoor
open Go Go.RowKit
set_option linter.all false
end Go.Proofs.YtapgibcdbggpkaaGreatDoor
