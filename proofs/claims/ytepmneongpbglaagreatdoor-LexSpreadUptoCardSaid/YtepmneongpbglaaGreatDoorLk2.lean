/- Layer 5: where a lexer lies; the byte at hand; the bytes of a sort. -/
import Derived.Test.YtepmneongpbglaaGreatDoorLk1
import Derived.Test.YtepmneongpbglaaGreatDoorLu
import Derived.Test.YtepmneongpbglaaGreatDoorBlk
namespace Go.Proofs.YtepmneongpbglaaGreatDoor
open Go Go.RowKit
set_option linter.all false
namespace Lx
def natAt (w : World) (a : Addr) : Nat := match w.cell? a with | some (.int _ n) => n.toNat | _ => 0
/-- where a lexer lies -/
def Lb (w : World) (p : Nat) (l : List UInt8) (i : Nat) (ln : Bool) (v : Value) : Prop :=
  w.heap[p]? = some (.cells #[.string ⟨l.toArray⟩, .int .i64 (i : Int), .bool ln, v] 39 (0, 0))
section
variable {w w' : World} {p i : Nat} {l : List UInt8} {ln : Bool} {v : Value}
theorem Lb.c0 (h : Lb w p l i ln v) : w.cell? ⟨p, 0, none⟩ = some (.string ⟨l.toArray⟩) := bk_cell h 0 _ rfl
theorem Lb.c1 (h : Lb w p l i ln v) : w.cell? ⟨p, 1, none⟩ = some (.int .i64 (i : Int)) := bk_cell h 1 _ rfl
theorem Lb.c2 (h : Lb w p l i ln v) : w.cell? ⟨p, 2, none⟩ = some (.bool ln) := bk_cell h 2 _ rfl
theorem Lb.c3 (h : Lb w p l i ln v) : w.cell? ⟨p, 3, none⟩ = some v := bk_cell h 3 _ rfl
theorem Lb.f (h : Lb w p l i ln v) (k : Nat) : w.frozen? ⟨p, k, none⟩ = false := bk_free h k
theorem Lb.pur (h : Lb w p l i ln v) (hp : Pur w w') : Lb w' p l i ln v := bk_pur h hp
theorem Lb.seti (h : Lb w p l i ln v) (j : Nat) (x : Int) (hx : x = (j : Int)) : Lb (w.setCell ⟨p, 1, none⟩ (.int .i64 x)) p l j ln v := by
  subst hx; exact bk_set h 1 _
theorem Lb.setln (h : Lb w p l i ln v) (b : Bool) : Lb (w.setCell ⟨p, 2, none⟩ (.bool b)) p l i b v := bk_set h 2 _
theorem Lb.nat (h : Lb w p l i ln v) : natAt w ⟨p, 1, none⟩ = i := by simp [natAt, h.c1]
theorem chg1 (p : Nat) (w : World) (k : Nat) (u : Value) : Chg [p] w (w.setCell ⟨p, k, none⟩ u) := (Chg.refl _ w).setCell (.inl (by simp)) _
theorem Lb.q0 (h : Lb w p l i ln v) : ∀ x : PW w, x.to.cell? ⟨p, 0, none⟩ = some (.string ⟨l.toArray⟩) := fun x => (h.pur x.pur).c0
theorem Lb.q1 (h : Lb w p l i ln v) : ∀ x : PW w, x.to.cell? ⟨p, 1, none⟩ = some (.int .i64 (i : Int)) := fun x => (h.pur x.pur).c1
set_option maxRecDepth 100000 in
theorem peek_any (h : Lb w p l i ln v) : Calls Tryz.prog 33 #[.pointer (some ⟨p, 0, none⟩)] w fun e w' => e = .returned (.int .u8 (by8 l i : Int)) ∧ Pur w w' := by
  have q0 := h.q0
  have q1 := h.q1
  by_cases hi : i < l.length
  · have hi' : (i : Int) < l.length := by omega
    go_enter Tryz.func33, Tryz.ntmps33
    go_wp2
    refine wp_region_pur (by kernel_rfl) (by kernel_rfl) ?_
    repeat (go_big_quiet_step (fail))
    refine wpQuiet_nil ?_
    intro wq hq
    have q0' := (h.pur hq).q0
    have q1' := (h.pur hq).q1
    clear q0 q1
    go_wp2
    refine wp_region_pur (by kernel_rfl) (by kernel_rfl) ?_
    repeat (go_big_quiet_step (fail))
    refine wpQuiet_nil ?_
    intro wr hr
    go_wp2
    go_ret
    exact ⟨rfl, hq.trans hr⟩
  · have hi' : ¬ (i : Int) < l.length := by omega
    rw [by8_ge (show l.length ≤ i by omega)]
    go_enter Tryz.func33, Tryz.ntmps33
    go_wp2
    refine wp_region_pur (by kernel_rfl) (by kernel_rfl) ?_
    repeat (go_big_quiet_step (fail))
    refine wpQuiet_nil ?_
    intro wq hq
    go_wp2
    go_ret
    exact ⟨rfl, hq⟩
set_option maxRecDepth 100000 in
theorem rest_any (h : Lb w p l i ln v) (hi : i ≤ l.length) : Calls Tryz.prog 31 #[.pointer (some ⟨p, 0, none⟩)] w fun e w' => e = .returned (.string ⟨(l.drop i).toArray⟩) ∧ Pur w w' := by
  have q0 := h.q0
  have q1 := h.q1
  have hi' : (i : Int) ≤ l.length := by omega
  rw [show l.drop i = sub l i l.length by unfold sub; rw [List.take_of_length_le (by rw [List.length_drop]; omega)]]
  go_enter Tryz.func31, Tryz.ntmps31
  go_wp2
  refine wp_region_pur (by kernel_rfl) (by kernel_rfl) ?_
  repeat (go_big_quiet_step (fail))
  refine wpQuiet_nil ?_
  intro wq hq
  go_wp2
  go_ret
  exact ⟨rfl, hq⟩
end
/-- the bytes of a sort, whatever function says it -/
def RunPost (w : World) (p : Nat) (l : List UInt8) (ln : Bool) (v : Value) (q : Nat → Bool) (i : Nat) (e : Ending) (w' : World) : Prop :=
  e = .returned (.string ⟨(sub l i (run q l i)).toArray⟩) ∧ Lb w' p l (run q l i) ln v ∧ Chg [p] w w'
theorem run_step {q : Nat → Bool} {l : List UInt8} {i : Nat} (hi : i < l.length) (h : q (by8 l i) = true) : run q l i = run q l (i + 1) := by
  have e : l.drop i = UInt8.ofNat (by8 l i) :: l.drop (i + 1) := by
    rw [List.drop_eq_getElem_cons hi]
    congr 1
    simp [by8, List.getD_eq_getElem?_getD, List.getElem?_eq_getElem hi]
  have hb := by8_lt l i
  have e2 : (UInt8.ofNat (by8 l i)).toNat = by8 l i := by rw [UInt8.toNat_ofNat']; omega
  unfold run
  rw [e, runGo, e2, if_pos h]
  omega
theorem run_stop {q : Nat → Bool} {l : List UInt8} {i : Nat} (h : i < l.length → q (by8 l i) = false) (hi : i ≤ l.length) : run q l i = i := by
  unfold run
  rcases Nat.lt_or_ge i l.length with g | g
  · have e : l.drop i = UInt8.ofNat (by8 l i) :: l.drop (i + 1) := by
      rw [List.drop_eq_getElem_cons g]
      congr 1
      simp [by8, List.getD_eq_getElem?_getD, List.getElem?_eq_getElem g]
    have hb := by8_lt l i
    have e2 : (UInt8.ofNat (by8 l i)).toNat = by8 l i := by rw [UInt8.toNat_ofNat']; omega
    rw [e, runGo, e2, if_neg (by rw [h g]; simp)]
    rfl
  · rw [List.drop_of_length_le g]; rfl
def wordC (b : Nat) : Bool := letter b || digit b
set_option maxRecDepth 100000 in
theorem word_chars (b : Nat) (w : World) : Calls Tryz.prog 35 #[.int .u8 (b : Int)] w fun e w' => e = .returned (.bool (wordC b)) ∧ w = w' := by
  have hw : wordC b = (letter b || digit b) := rfl
  rw [hw]
  clear hw
  have L := fun w => letter_any b w
  have D := fun w => digit_any b w
  rcases d0 : letter b with _ | _ <;> rcases d1 : digit b with _ | _
  all_goals
    rw [d0] at L
    rw [d1] at D
    go_enter Tryz.func35, Tryz.ntmps35
    go_wp2_with (first | (go_at_call 20; refine (L _).mono ?_; rintro e w1 ⟨rfl, rfl⟩) | (go_at_call 21; refine (D _).mono ?_; rintro e w1 ⟨rfl, rfl⟩))
    go_ret
    exact ⟨rfl, rfl⟩
set_option maxRecDepth 100000 in
set_option maxHeartbeats 4000000 in
theorem run_digit {w : World} {p i : Nat} {l : List UInt8} {ln : Bool} {v : Value} (h : Lb w p l i ln v) (hi : i ≤ l.length) (hl : l.length ≤ 1000000000) :
    Calls Tryz.prog 34 #[.pointer (some ⟨p, 0, none⟩), .func (.func 21) #[] #[]] w fun e w' => RunPost w p l ln v digit i e w' := by
  have c1 := h.c1
  go_enter Tryz.func34, Tryz.ntmps34
  go_wp2
  clear c1
  go_loopw [19] (fun _ wr => ∃ j, i ≤ j ∧ j ≤ l.length ∧ Lb wr p l j ln v ∧ Chg [p] w wr ∧ Hid (run digit l i = run digit l j)) (fun _ wr => l.length + 1 - natAt wr ⟨p, 1, none⟩)
  case atStart => exact ⟨i, by omega, by omega, h, Chg.refl _ _, Lib.hid rfl⟩
  case round =>
    obtain ⟨j, j1, j2, k, G, H⟩ := hrel
    have q0 := k.q0
    have q1 := k.q1
    have e3 := k.nat
    by_cases hj : j < l.length
    · have hj' : (j : Int) < l.length := by omega
      have hb8 := by8_lt l j
      rcases hq : digit (by8 l j) with _ | _
      · have HS := Lib.hid (show run digit l i = j by rw [H.out, run_stop (fun _ => hq) j2])
        have CL := fun x : PW wr => digit_any (by8 l j) x.to
        rw [hq] at CL
        clear H
        go_wp2
        refine wp_region_pur (by kernel_rfl) (by kernel_rfl) ?_
        repeat (go_big_quiet_step (((go_at_call 21; with_reducible exact quiet_eq (CL _)))))
        refine wpQuiet_nil ?_
        intro wq hwq
        have k2 := k.pur hwq
        have q0' := k2.q0
        have q1' := k2.q1
        have hij' : (i : Int) ≤ j := by omega
        have hjl2 : (j : Int) ≤ l.length := by omega
        clear q0 q1 CL
        go_wp2
        refine wp_region_pur (by kernel_rfl) (by kernel_rfl) ?_
        repeat (go_big_quiet_step (fail))
        refine wpQuiet_nil ?_
        intro wz hwz
        go_wp2
        go_ret
        unfold RunPost
        rw [HS.out]
        exact ⟨rfl, k2.pur hwz, (G.pur hwq).pur hwz⟩
      · have HS := Lib.hid (H.out.trans (run_step hj hq))
        have CL := fun x : PW wr => digit_any (by8 l j) x.to
        rw [hq] at CL
        have w1 : IntKind.i64.wrap ((j : Int) + 1) = (j : Int) + 1 := IntWalk.i64_in _ (by omega)
        clear H
        go_wp2
        refine wp_region_pur (by kernel_rfl) (by kernel_rfl) ?_
        repeat (go_big_quiet_step (((go_at_call 21; with_reducible exact quiet_eq (CL _)))))
        refine wpQuiet_nil ?_
        intro wq hwq
        have k2 := k.pur hwq
        have c1 := k2.c1
        have f1 := k2.f 1
        have k3 := k2.seti (j + 1) ((j : Int) + 1) (by omega)
        have e4 := k3.nat
        have G3 := (G.pur hwq).trans (chg1 p wq 1 (.int .i64 ((j : Int) + 1)))
        clear q0 q1 CL
        go_wp2
        go_roundw
        case rel => exact ⟨j + 1, by omega, by omega, k3, G3, HS⟩
        case measure => rw [e3, e4]; omega
    · have hj' : ¬ (j : Int) < l.length := by omega
      have HS := Lib.hid (show run digit l i = j by rw [H.out, run_stop (fun g => absurd g hj) j2])
      clear H
      go_wp2
      refine wp_region_pur (by kernel_rfl) (by kernel_rfl) ?_
      repeat (go_big_quiet_step (fail))
      refine wpQuiet_nil ?_
      intro wq hwq
      have k2 := k.pur hwq
      have q0' := k2.q0
      have q1' := k2.q1
      have hij' : (i : Int) ≤ j := by omega
      have hjl2 : (j : Int) ≤ l.length := by omega
      clear q0 q1
      go_wp2
      refine wp_region_pur (by kernel_rfl) (by kernel_rfl) ?_
      repeat (go_big_quiet_step (fail))
      refine wpQuiet_nil ?_
      intro wz hwz
      go_wp2
      go_ret
      unfold RunPost
      rw [HS.out]
      exact ⟨rfl, k2.pur hwz, (G.pur hwq).pur hwz⟩
set_option maxRecDepth 100000 in
set_option maxHeartbeats 4000000 in
theorem run_sixteen {w : World} {p i : Nat} {l : List UInt8} {ln : Bool} {v : Value} (h : Lb w p l i ln v) (hi : i ≤ l.length) (hl : l.length ≤ 1000000000) :
    Calls Tryz.prog 34 #[.pointer (some ⟨p, 0, none⟩), .func (.func 44) #[] #[]] w fun e w' => RunPost w p l ln v sixteen i e w' := by
  have c1 := h.c1
  go_enter Tryz.func34, Tryz.ntmps34
  go_wp2
  clear c1
  go_loopw [19] (fun _ wr => ∃ j, i ≤ j ∧ j ≤ l.length ∧ Lb wr p l j ln v ∧ Chg [p] w wr ∧ Hid (run sixteen l i = run sixteen l j)) (fun _ wr => l.length + 1 - natAt wr ⟨p, 1, none⟩)
  case atStart => exact ⟨i, by omega, by omega, h, Chg.refl _ _, Lib.hid rfl⟩
  case round =>
    obtain ⟨j, j1, j2, k, G, H⟩ := hrel
    have q0 := k.q0
    have q1 := k.q1
    have e3 := k.nat
    by_cases hj : j < l.length
    · have hj' : (j : Int) < l.length := by omega
      have hb8 := by8_lt l j
      rcases hq : sixteen (by8 l j) with _ | _
      · have HS := Lib.hid (show run sixteen l i = j by rw [H.out, run_stop (fun _ => hq) j2])
        have CL := fun x : PW wr => sixteen_any (by8 l j) x.to hb8
        rw [hq] at CL
        clear H
        go_wp2
        refine wp_region_pur (by kernel_rfl) (by kernel_rfl) ?_
        repeat (go_big_quiet_step (((go_at_call 44; with_reducible exact quiet_eq (CL _)))))
        refine wpQuiet_nil ?_
        intro wq hwq
        have k2 := k.pur hwq
        have q0' := k2.q0
        have q1' := k2.q1
        have hij' : (i : Int) ≤ j := by omega
        have hjl2 : (j : Int) ≤ l.length := by omega
        clear q0 q1 CL
        go_wp2
        refine wp_region_pur (by kernel_rfl) (by kernel_rfl) ?_
        repeat (go_big_quiet_step (fail))
        refine wpQuiet_nil ?_
        intro wz hwz
        go_wp2
        go_ret
        unfold RunPost
        rw [HS.out]
        exact ⟨rfl, k2.pur hwz, (G.pur hwq).pur hwz⟩
      · have HS := Lib.hid (H.out.trans (run_step hj hq))
        have CL := fun x : PW wr => sixteen_any (by8 l j) x.to hb8
        rw [hq] at CL
        have w1 : IntKind.i64.wrap ((j : Int) + 1) = (j : Int) + 1 := IntWalk.i64_in _ (by omega)
        clear H
        go_wp2
        refine wp_region_pur (by kernel_rfl) (by kernel_rfl) ?_
        repeat (go_big_quiet_step (((go_at_call 44; with_reducible exact quiet_eq (CL _)))))
        refine wpQuiet_nil ?_
        intro wq hwq
        have k2 := k.pur hwq
        have c1 := k2.c1
        have f1 := k2.f 1
        have k3 := k2.seti (j + 1) ((j : Int) + 1) (by omega)
        have e4 := k3.nat
        have G3 := (G.pur hwq).trans (chg1 p wq 1 (.int .i64 ((j : Int) + 1)))
        clear q0 q1 CL
        go_wp2
        go_roundw
        case rel => exact ⟨j + 1, by omega, by omega, k3, G3, HS⟩
        case measure => rw [e3, e4]; omega
    · have hj' : ¬ (j : Int) < l.length := by omega
      have HS := Lib.hid (show run sixteen l i = j by rw [H.out, run_stop (fun g => absurd g hj) j2])
      clear H
      go_wp2
      refine wp_region_pur (by kernel_rfl) (by kernel_rfl) ?_
      repeat (go_big_quiet_step (fail))
      refine wpQuiet_nil ?_
      intro wq hwq
      have k2 := k.pur hwq
      have q0' := k2.q0
      have q1' := k2.q1
      have hij' : (i : Int) ≤ j := by omega
      have hjl2 : (j : Int) ≤ l.length := by omega
      clear q0 q1
      go_wp2
      refine wp_region_pur (by kernel_rfl) (by kernel_rfl) ?_
      repeat (go_big_quiet_step (fail))
      refine wpQuiet_nil ?_
      intro wz hwz
      go_wp2
      go_ret
      unfold RunPost
      rw [HS.out]
      exact ⟨rfl, k2.pur hwz, (G.pur hwq).pur hwz⟩
set_option maxRecDepth 100000 in
set_option maxHeartbeats 4000000 in
theorem run_word {w : World} {p i : Nat} {l : List UInt8} {ln : Bool} {v : Value} (h : Lb w p l i ln v) (hi : i ≤ l.length) (hl : l.length ≤ 1000000000) :
    Calls Tryz.prog 34 #[.pointer (some ⟨p, 0, none⟩), .func (.func 35) #[] #[]] w fun e w' => RunPost w p l ln v wordC i e w' := by
  have c1 := h.c1
  go_enter Tryz.func34, Tryz.ntmps34
  go_wp2
  clear c1
  go_loopw [19] (fun _ wr => ∃ j, i ≤ j ∧ j ≤ l.length ∧ Lb wr p l j ln v ∧ Chg [p] w wr ∧ Hid (run wordC l i = run wordC l j)) (fun _ wr => l.length + 1 - natAt wr ⟨p, 1, none⟩)
  case atStart => exact ⟨i, by omega, by omega, h, Chg.refl _ _, Lib.hid rfl⟩
  case round =>
    obtain ⟨j, j1, j2, k, G, H⟩ := hrel
    have q0 := k.q0
    have q1 := k.q1
    have e3 := k.nat
    by_cases hj : j < l.length
    · have hj' : (j : Int) < l.length := by omega
      have hb8 := by8_lt l j
      rcases hq : wordC (by8 l j) with _ | _
      · have HS := Lib.hid (show run wordC l i = j by rw [H.out, run_stop (fun _ => hq) j2])
        have CL := fun x : PW wr => word_chars (by8 l j) x.to
        rw [hq] at CL
        clear H
        go_wp2
        refine wp_region_pur (by kernel_rfl) (by kernel_rfl) ?_
        repeat (go_big_quiet_step (((go_at_call 35; with_reducible exact quiet_eq (CL _)))))
        refine wpQuiet_nil ?_
        intro wq hwq
        have k2 := k.pur hwq
        have q0' := k2.q0
        have q1' := k2.q1
        have hij' : (i : Int) ≤ j := by omega
        have hjl2 : (j : Int) ≤ l.length := by omega
        clear q0 q1 CL
        go_wp2
        refine wp_region_pur (by kernel_rfl) (by kernel_rfl) ?_
        repeat (go_big_quiet_step (fail))
        refine wpQuiet_nil ?_
        intro wz hwz
        go_wp2
        go_ret
        unfold RunPost
        rw [HS.out]
        exact ⟨rfl, k2.pur hwz, (G.pur hwq).pur hwz⟩
      · have HS := Lib.hid (H.out.trans (run_step hj hq))
        have CL := fun x : PW wr => word_chars (by8 l j) x.to
        rw [hq] at CL
        have w1 : IntKind.i64.wrap ((j : Int) + 1) = (j : Int) + 1 := IntWalk.i64_in _ (by omega)
        clear H
        go_wp2
        refine wp_region_pur (by kernel_rfl) (by kernel_rfl) ?_
        repeat (go_big_quiet_step (((go_at_call 35; with_reducible exact quiet_eq (CL _)))))
        refine wpQuiet_nil ?_
        intro wq hwq
        have k2 := k.pur hwq
        have c1 := k2.c1
        have f1 := k2.f 1
        have k3 := k2.seti (j + 1) ((j : Int) + 1) (by omega)
        have e4 := k3.nat
        have G3 := (G.pur hwq).trans (chg1 p wq 1 (.int .i64 ((j : Int) + 1)))
        clear q0 q1 CL
        go_wp2
        go_roundw
        case rel => exact ⟨j + 1, by omega, by omega, k3, G3, HS⟩
        case measure => rw [e3, e4]; omega
    · have hj' : ¬ (j : Int) < l.length := by omega
      have HS := Lib.hid (show run wordC l i = j by rw [H.out, run_stop (fun g => absurd g hj) j2])
      clear H
      go_wp2
      refine wp_region_pur (by kernel_rfl) (by kernel_rfl) ?_
      repeat (go_big_quiet_step (fail))
      refine wpQuiet_nil ?_
      intro wq hwq
      have k2 := k.pur hwq
      have q0' := k2.q0
      have q1' := k2.q1
      have hij' : (i : Int) ≤ j := by omega
      have hjl2 : (j : Int) ≤ l.length := by omega
      clear q0 q1
      go_wp2
      refine wp_region_pur (by kernel_rfl) (by kernel_rfl) ?_
      repeat (go_big_quiet_step (fail))
      refine wpQuiet_nil ?_
      intro wz hwz
      go_wp2
      go_ret
      unfold RunPost
      rw [HS.out]
      exact ⟨rfl, k2.pur hwz, (G.pur hwq).pur hwz⟩
end Lx
end Go.Proofs.YtepmneongpbglaaGreatDoor
