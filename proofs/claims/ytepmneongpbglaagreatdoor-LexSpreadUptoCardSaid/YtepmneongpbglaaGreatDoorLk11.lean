/- Layer 5: a number. -/
import Derived.Test.YtepmneongpbglaaGreatDoorLk5
import Derived.Test.YtepmneongpbglaaGreatDoorLkX
import Derived.Test.YtepmneongpbglaaGreatDoorTail
import Derived.StillTailTactics
import Derived.Deep.CutRange
namespace Go.Proofs.YtepmneongpbglaaGreatDoor
open Go Go.RowKit
set_option linter.all false
namespace Lx
/-- of the numerals t of C it is known since w0 that esnum.Number says an x with N t x -/
def NC (w0 : World) (N : List UInt8 → Nat → Prop) (C : List UInt8 → Bool) : Prop :=
  ∀ t, C t = true → ∀ w, Pur w0 w → Calls Tryz.prog 45 #[.string ⟨(w16 t).toArray⟩] w fun e w' => (∃ x, e = .returned (.float .f64 x) ∧ N t x) ∧ Pur w w'
/-- how a number ends -/
def NumPost (N : List UInt8 → Nat → Prop) (w : World) (p : Nat) (l : List UInt8) (i : Nat) (ln : Bool) (v : Value) (r : Option Nat) (e : Ending) (w' : World) : Prop := match r with
  | some j => (∃ x, N (sub l i j) x ∧ e = .returned (.tuple #[.float .f64 x, .bool true])) ∧ Lb w' p l j ln v ∧ Chg [p] w w'
  | none => e = .returned (.tuple #[.float .f64 0, .bool false]) ∧ (∃ j, Lb w' p l j ln v) ∧ Chg [p] w w'
def isHex (l : List UInt8) (i : Nat) : Bool := (by8 l i == 48) && (decide (i + 1 < l.length) && (by8 l (i + 1) ||| 32 == 120))
theorem isHex_iff (l : List UInt8) (i : Nat) : isHex l i = true ↔ (by8 l i = 48 ∧ i + 1 < l.length ∧ (by8 l (i + 1) = 120 ∨ by8 l (i + 1) = 88)) := by
  unfold isHex
  rw [Bool.and_eq_true, Bool.and_eq_true, beq_iff_eq, decide_eq_true_eq, beq_iff_eq, (or32 _ (by8_lt l (i + 1))).2.2.1]
set_option maxRecDepth 100000 in
set_option maxHeartbeats 32000000 in
theorem number_any {N : List UInt8 → Nat → Prop} {C : List UInt8 → Bool} {w0 w : World} {p i : Nat} {l : List UInt8} {ln : Bool} {v : Value} (h : Lb w p l i ln v) (B : LB w0 p w) (hN : NC w0 N C) (hi : i < l.length) (hl : l.length ≤ 1000000)
    (hC : ∀ j, numeral l i = some j → C (sub l i j) = true) :
    Calls Tryz.prog 36 #[.pointer (some ⟨p, 0, none⟩)] w fun e w' => NumPost N w p l i ln v (numeral l i) e w' := by
  have c1 := h.c1
  have hb8 := by8_lt l i
  have hb9 := by8_lt l (i + 1)
  have w1' : IntKind.i64.wrap ((i : Int) + 1) = (i : Int) + 1 := IntWalk.i64_in _ (by omega)
  have ho : bits .or .u8 (by8 l (i + 1) : Int) 32 = ((by8 l (i + 1) ||| 32 : Nat) : Int) := u8_or_nat (by8 l (i + 1)) 32 hb9 (by decide)
  go_enter Tryz.func36, Tryz.ntmps36
  go_upto_region 2 with (fail)
  clear c1
  have q0 := h.q0
  have q1 := h.q1
  have PK := fun x : PW w => peek_any (h.pur x.pur)
  go_cut [40] from 11 to 40 (fun t wx => t = .bool (isHex l i) ∧ Pur w wx)
  case first =>
    have hH : isHex l i = ((by8 l i == 48) && (decide (i + 1 < l.length) && (by8 l (i + 1) ||| 32 == 120))) := rfl
    have i2 : ((i : Int) + 1).toNat = i + 1 := by omega
    generalize hO : (by8 l (i + 1) ||| 32) = o at *
    have e1 : ((by8 l i : Int) == 48) = (by8 l i == 48) := by rw [Bool.eq_iff_iff, beq_iff_eq, beq_iff_eq]; omega
    have e3 : ((o : Int) == 120) = (o == 120) := by rw [Bool.eq_iff_iff, beq_iff_eq, beq_iff_eq]; omega
    rcases b1 : (by8 l i == 48) with _ | _
    · rw [b1] at e1 hH
      clear ho e3 hO
      refine wp_region_pur (by kernel_rfl) (by kernel_rfl) ?_
      repeat (go_big_quiet_step (((go_at_call 33; with_reducible exact quiet_pur (PK _)))))
      refine wpQuiet_nil ?_
      intro wq hq
      go_wp2
      go_meet
      exact ⟨by rw [hH]; rfl, hq⟩
    · rw [b1] at e1 hH
      by_cases hlt : i + 1 < l.length
      · have hlt' : (i : Int) + 1 < l.length := by omega
        have d2 : decide ((i : Int) + 1 < (l.length : Int)) = true := by rw [decide_eq_true_eq]; omega
        have d2' : decide (i + 1 < l.length) = true := by rw [decide_eq_true_eq]; omega
        rw [d2'] at hH
        rcases b3 : (o == 120) with _ | _
        all_goals
          rw [b3] at e3 hH
          refine wp_region_pur (by kernel_rfl) (by kernel_rfl) ?_
          repeat (go_big_quiet_step (((go_at_call 33; with_reducible exact quiet_pur (PK _)))))
          refine wpQuiet_nil ?_
          intro wq hq
          go_wp2
          go_meet
          exact ⟨by rw [hH]; rfl, hq⟩
      · have d2 : decide ((i : Int) + 1 < (l.length : Int)) = false := by rw [decide_eq_false_iff_not]; omega
        have d2' : decide (i + 1 < l.length) = false := by rw [decide_eq_false_iff_not]; omega
        rw [d2'] at hH
        clear ho e3 hO
        refine wp_region_pur (by kernel_rfl) (by kernel_rfl) ?_
        repeat (go_big_quiet_step (((go_at_call 33; with_reducible exact quiet_pur (PK _)))))
        refine wpQuiet_nil ?_
        intro wq hq
        go_wp2
        go_meet
        exact ⟨by rw [hH]; rfl, hq⟩
  case rest =>
    obtain ⟨rfl, p2⟩ := hcut
    have k2 := h.pur p2
    have G2 := Chg.of_pur (S := [p]) p2
    clear q0 q1 PK p2
    go_upto_if 40 with (fail)
    go_cut [5, 40] from 41 to 101 (fun _ _ wx => ∃ e, numEnd l i = some e ∧ Lb wx p l e ln v ∧ Chg [p] w wx)
    case first =>
      rcases hx : isHex l i with _ | _
      · have hnx : ¬ (by8 l i = 48 ∧ i + 1 < l.length ∧ (by8 l (i + 1) = 120 ∨ by8 l (i + 1) = 88)) := fun g => by rw [(isHex_iff l i).2 g] at hx; cases hx
        have RD := run_digit k2 (by omega) (by omega)
        unfold RunPost at RD
        have hnE : numEnd l i = if 1 < run digit l i - i ∧ by8 l i = 48 then none
            else if by8 l (ptd l (run digit l i)) = 101 ∨ by8 l (ptd l (run digit l i)) = 69 then
              (if run digit l (sgn l (ptd l (run digit l i) + 1)) = sgn l (ptd l (run digit l i) + 1) then none else some (run digit l (sgn l (ptd l (run digit l i) + 1))))
            else some (ptd l (run digit l i)) := by unfold numEnd; rw [if_neg hnx]
        have hA := run_le digit l i
        generalize run digit l i = A at *
        have hSl : (sub l i A).length = A - i := by rw [length_sub]; omega
        have hS0 : 1 < A - i → by8 (sub l i A) 0 = by8 l i := fun g => by rw [by8_sub, if_pos (by omega)]; rfl
        generalize sub l i A = S at *
        clear hx hnx ho
        go_wp2_with fail
        refine RD.mono ?_
        rintro e w3 ⟨rfl, k3, g3⟩
        have G3 := G2.trans g3
        clear RD k2 G2 g3
        obtain ⟨bb, hbb⟩ : ∃ bb, (decide (1 < A - i) && (by8 l i == 48)) = bb := ⟨_, rfl⟩
        replace hbb := Lib.hid hbb
        go_upto_region 7 with (fail)
        go_cut [60] from 53 to 60 (fun t wx => t = .bool bb ∧ wx = w3)
        case first =>
          have e1 : ((by8 l i : Int) == 48) = (by8 l i == 48) := by rw [Bool.eq_iff_iff, beq_iff_eq, beq_iff_eq]; omega
          by_cases hlt : 1 < A - i
          · have hS := hS0 hlt
            have d1 : decide ((1 : Int) < (S.length : Int)) = true := by rw [decide_eq_true_eq]; omega
            have d2 : decide (1 < A - i) = true := by rw [decide_eq_true_eq]; exact hlt
            have d3 : (0 : Int) < (S.length : Int) := by omega
            have hb2 : bb = (by8 l i == 48) := by rw [← hbb.out, d2]; rfl
            rcases h48 : (by8 l i == 48) with _ | _
            all_goals
              rw [h48] at e1 hb2
              subst hb2
              clear hnE hC hbb
              go_wp2
              go_meet
              exact ⟨rfl, rfl⟩
          · have d1 : decide ((1 : Int) < (S.length : Int)) = false := by rw [decide_eq_false_iff_not]; omega
            have d2 : decide (1 < A - i) = false := by rw [decide_eq_false_iff_not]; exact hlt
            have hb2 : bb = false := by rw [← hbb.out, d2]; rfl
            subst hb2
            clear hnE hC hbb
            go_wp2
            go_meet
            exact ⟨rfl, rfl⟩
        case rest =>
          obtain ⟨rfl, rfl⟩ := hcut
          have hiff : bb = true ↔ (1 < A - i ∧ by8 l i = 48) := by rw [← hbb.out, Bool.and_eq_true, decide_eq_true_eq, beq_iff_eq]
          rcases bb with _ | _
          · rw [if_neg (fun g => by have := hiff.2 g; cases this)] at hnE
            have hP := ptd_le (l := l) (a := A) (by omega)
            have PKA := peek_any k3
            have hB8 := by8_lt l A
            clear hbb hiff hSl hS0
            go_wp2_with fail
            refine PKA.mono ?_
            rintro e w4 ⟨rfl, p4⟩
            have k4 := k3.pur p4
            have G4 := G3.pur p4
            go_upto_if 63 with (fail)
            go_cut [63] from 64 to 72 (fun _ wx => Lb wx p l (ptd l A) ln v ∧ Chg [p] w wx)
            case first =>
              by_cases h46 : by8 l A = 46
              · have hAl : A < l.length := at_lt (by omega)
                have hpt : ptd l A = run digit l (A + 1) := by unfold ptd; rw [if_pos h46]
                have d46 : ((by8 l A : Int) == 46) = true := by rw [beq_iff_eq]; omega
                have c1 := k4.c1
                have f1 := k4.f 1
                have w5' : IntKind.i64.wrap ((A : Int) + 1) = (A : Int) + 1 := IntWalk.i64_in _ (by omega)
                have k5 := k4.seti (A + 1) ((A : Int) + 1) (by omega)
                have G5 := G4.trans (chg1 p w4 1 (.int .i64 ((A : Int) + 1)))
                have RD := run_digit k5 (by omega) (by omega)
                unfold RunPost at RD
                rw [← hpt] at RD
                clear hnE hC h46 hpt
                go_wp2_with fail
                refine RD.mono ?_
                rintro e w6 ⟨rfl, k6, g6⟩
                go_wp2
                go_meet
                exact ⟨k6, G5.trans g6⟩
              · have hpt : ptd l A = A := by unfold ptd; rw [if_neg h46]
                have d46 : ((by8 l A : Int) == 46) = false := by rw [beq_eq_false_iff_ne]; omega
                rw [← hpt] at k4
                clear hnE hC h46 hpt
                go_wp2
                go_meet
                exact ⟨k4, G4⟩
            case rest =>
              obtain ⟨k5, G5⟩ := hcut
              clear k3 k4 G3 G4 PKA
              generalize ptd l A = P at *
              have PKP := peek_any k5
              have hb := by8_lt l P
              have ho2 : bits .or .u8 (by8 l P : Int) 32 = ((by8 l P ||| 32 : Nat) : Int) := u8_or_nat (by8 l P) 32 hb (by decide)
              have hor := (or32 (by8 l P) hb).2.2.2
              generalize hO2 : (by8 l P ||| 32) = o2 at *
              by_cases hx : by8 l P = 101 ∨ by8 l P = 69
              · rw [if_pos hx] at hnE
                have hPl : P < l.length := at_lt (by omega)
                have do2 : ((o2 : Int) == 101) = true := by rw [beq_iff_eq]; have := hor.2 hx; omega
                have w5' : IntKind.i64.wrap ((P : Int) + 1) = (P : Int) + 1 := IntWalk.i64_in _ (by omega)
                have hb1 := by8_lt l (P + 1)
                have hs1 := sgn_le (l := l) (a := P + 1) (by omega)
                clear hor hx hO2
                go_wp2_with fail
                refine PKP.mono ?_
                rintro e w6 ⟨rfl, p6⟩
                have k6 := k5.pur p6
                have c1 := k6.c1
                have f1 := k6.f 1
                have k7 := k6.seti (P + 1) ((P : Int) + 1) (by omega)
                have G7 := (G5.pur p6).trans (chg1 p w6 1 (.int .i64 ((P : Int) + 1)))
                clear k5 G5 PKP k6
                obtain ⟨w7, hW7⟩ : ∃ W, W = w6.setCell ⟨p, 1, none⟩ (.int .i64 ((P : Int) + 1)) := ⟨_, rfl⟩
                rw [← hW7] at k7 G7
                go_upto_region 14 with (fail)
                rw [← hW7]
                clear c1 f1 hW7
                have PK7 := fun (w' : World) (hp : Pur w7 w') => peek_any (k7.pur hp)
                obtain ⟨sg, hsg⟩ : ∃ sg, (by8 l (P + 1) == 43 || by8 l (P + 1) == 45) = sg := ⟨_, rfl⟩
                replace hsg := Lib.hid hsg
                go_cut [91] from 84 to 91 (fun t wx => t = .bool sg ∧ Pur w7 wx)
                case first =>
                  clear hnE hC
                  have d1 : ((by8 l (P + 1) : Int) == 43) = (by8 l (P + 1) == 43) := by rw [Bool.eq_iff_iff, beq_iff_eq, beq_iff_eq]; omega
                  have d2 : ((by8 l (P + 1) : Int) == 45) = (by8 l (P + 1) == 45) := by rw [Bool.eq_iff_iff, beq_iff_eq, beq_iff_eq]; omega
                  rcases g1 : (by8 l (P + 1) == 43) with _ | _
                  · rcases g2 : (by8 l (P + 1) == 45) with _ | _
                    all_goals
                      rw [g1] at d1
                      rw [g2] at d2
                      have hs2 : sg = _ := hsg.out.symm
                      rw [g1, g2] at hs2
                      subst hs2
                      clear g1 g2 hsg
                      go_wp2_with fail
                      refine (PK7 _ (Pur.refl _)).mono ?_
                      rintro e w8 ⟨rfl, p8⟩
                      go_wp2_with fail
                      refine (PK7 _ p8).mono ?_
                      rintro e w9 ⟨rfl, p9⟩
                      go_wp2
                      go_meet
                      exact ⟨rfl, p8.trans p9⟩
                  · rw [g1] at d1
                    have hs2 : sg = _ := hsg.out.symm
                    rw [g1] at hs2
                    subst hs2
                    clear g1 hsg d2
                    go_wp2_with fail
                    refine (PK7 _ (Pur.refl _)).mono ?_
                    rintro e w8 ⟨rfl, p8⟩
                    go_wp2
                    go_meet
                    exact ⟨rfl, p8⟩
                case rest =>
                  obtain ⟨rfl, p8⟩ := hcut
                  have k8 := k7.pur p8
                  have G8 := G7.pur p8
                  clear PK7 k7 G7 p8
                  go_upto_if 91 with (fail)
                  go_cut [91] from 92 to 98 (fun _ wx => Lb wx p l (sgn l (P + 1)) ln v ∧ Chg [p] w wx)
                  case first =>
                    have hsn : sgn l (P + 1) = if sg then P + 2 else P + 1 := by
                      rw [← hsg.out]
                      unfold sgn
                      by_cases q : by8 l (P + 1) = 43 ∨ by8 l (P + 1) = 45
                      · rw [if_pos q, if_pos (by simpa using q)]
                      · rw [if_neg q, if_neg (by simpa using q)]
                    rcases sg with _ | _
                    · have hsn2 : sgn l (P + 1) = P + 1 := hsn
                      rw [← hsn2] at k8
                      clear hnE hC hsn hsn2 hsg
                      go_wp2
                      go_meet
                      exact ⟨k8, G8⟩
                    · have hsn2 : sgn l (P + 1) = P + 2 := hsn
                      have c1 := k8.c1
                      have f1 := k8.f 1
                      have w6' : IntKind.i64.wrap (((P + 1 : Nat) : Int) + 1) = (P : Int) + 2 := by rw [IntWalk.i64_in _ (by omega)]; omega
                      have w7' : IntKind.i64.wrap ((P : Int) + 1 + 1) = (P : Int) + 2 := by rw [IntWalk.i64_in _ (by omega)]; omega
                      have k9 := k8.seti (sgn l (P + 1)) ((P : Int) + 2) (by omega)
                      have G9 := G8.trans (chg1 p _ 1 (.int .i64 ((P : Int) + 2)))
                      clear hnE hC hsn hsn2 hsg
                      go_wp2
                      go_meet
                      exact ⟨k9, G9⟩
                  case rest =>
                    obtain ⟨k9, G9⟩ := hcut
                    clear k8 G8 hsg
                    generalize sgn l (P + 1) = D at *
                    have RD := run_digit k9 (by omega) (by omega)
                    unfold RunPost at RD
                    have hrl := run_le digit l D
                    generalize run digit l D = E at *
                    by_cases hEe : E = D
                    · rw [if_pos hEe] at hnE
                      have HS := Lib.hid (show numeral l i = none by unfold numeral; rw [hnE]; rfl)
                      rw [sub_nil l (show E ≤ D by omega)] at RD
                      clear hnE hC
                      go_wp2_with fail
                      refine RD.mono ?_
                      rintro e w10 ⟨rfl, k10, g10⟩
                      go_wp2
                      go_ret2
                      rw [HS.out]
                      exact ⟨rfl, ⟨_, k10⟩, G9.trans g10⟩
                    · rw [if_neg hEe] at hnE
                      have hse : (sub l D E).isEmpty = false := by
                        rw [List.isEmpty_eq_false_iff]
                        intro e0
                        have := congrArg List.length e0
                        rw [length_sub] at this
                        simp at this
                        omega
                      have hnE := Lib.hid hnE
                      clear hC
                      go_wp2_with fail
                      refine RD.mono ?_
                      rintro e w10 ⟨rfl, k10, g10⟩
                      have G10 := G9.trans g10
                      go_wp2
                      go_meet
                      exact ⟨E, hnE.out, k10, G10⟩
              · rw [if_neg hx] at hnE
                have do2 : ((o2 : Int) == 101) = false := by rw [beq_eq_false_iff_ne]; intro g; exact hx (hor.1 (by omega))
                replace hnE := Lib.hid hnE
                clear hor hx hO2 hC
                go_wp2_with fail
                refine PKP.mono ?_
                rintro e w6 ⟨rfl, p6⟩
                go_wp2
                go_meet
                exact ⟨P, hnE.out, k5.pur p6, G5.pur p6⟩
          · rw [if_pos (hiff.1 rfl)] at hnE
            have HS := Lib.hid (show numeral l i = none by unfold numeral; rw [hnE]; rfl)
            clear hnE hC hbb hiff
            go_wp2
            go_ret2
            rw [HS.out]
            exact ⟨rfl, ⟨_, k3⟩, G3⟩
      · have hyx := (isHex_iff l i).1 hx
        have c1 := k2.c1
        have f1 := k2.f 1
        have w2' : IntKind.i64.wrap ((i : Int) + 2) = (i : Int) + 2 := IntWalk.i64_in _ (by omega)
        have k3 := k2.seti (i + 2) ((i : Int) + 2) (by omega)
        have G3 := G2.trans (chg1 p _ 1 (.int .i64 ((i : Int) + 2)))
        have RS := run_sixteen k3 (by omega) (by omega)
        unfold RunPost at RS
        have hnE : numEnd l i = if run sixteen l (i + 2) = i + 2 then none else some (run sixteen l (i + 2)) := by unfold numEnd; rw [if_pos hyx]
        have hrl := run_le sixteen l (i + 2)
        generalize run sixteen l (i + 2) = E at *
        by_cases hEe : E = i + 2
        · rw [if_pos hEe] at hnE
          have HS := Lib.hid (show numeral l i = none by unfold numeral; rw [hnE]; rfl)
          rw [sub_nil l (show E ≤ i + 2 by omega)] at RS
          clear hnE hx hyx hC k2 G2
          go_wp2_with fail
          refine RS.mono ?_
          rintro e w5 ⟨rfl, k5, g5⟩
          go_wp2
          go_ret2
          rw [HS.out]
          exact ⟨rfl, ⟨_, k5⟩, G3.trans g5⟩
        · rw [if_neg hEe] at hnE
          have hse : (sub l (i + 2) E).isEmpty = false := by
            rw [List.isEmpty_eq_false_iff]
            intro e0
            have := congrArg List.length e0
            rw [length_sub] at this
            simp at this
            omega
          have hnE := Lib.hid hnE
          clear hx hyx hC k2 G2
          go_wp2_with fail
          refine RS.mono ?_
          rintro e w5 ⟨rfl, k5, g5⟩
          have G5 := G3.trans g5
          go_wp2
          go_meet
          exact ⟨E, hnE.out, k5, G5⟩
    case rest =>
      obtain ⟨e, hne, k5, G5⟩ := hcut
      clear k2 G2
      have hle := numEnd_le hne hi
      have PK5 := peek_any k5
      have L5 := fun w => letter_any (by8 l e) w
      have D5 := fun w => digit_any (by8 l e) w
      have hnum : numeral l i = if letter (by8 l e) || digit (by8 l e) then none else some e := by unfold numeral; rw [hne]; rfl
      rcases hL : letter (by8 l e) with _ | _
      · rcases hD : digit (by8 l e) with _ | _
        · rw [hL] at L5
          rw [hD] at D5
          rw [hL, hD] at hnum
          have hnum' : numeral l i = some e := hnum
          have hCe := hC e hnum'
          have HS := Lib.hid hnum'
          have hlow := sub_low (num_low hne)
          have hslen : (sub l i e).length ≤ 1000000 := by rw [length_sub]; omega
          have WP := wide_plain (sub l i e) hlow
          have g1 : (i : Int) ≤ e := by omega
          have g2 : (e : Int) ≤ l.length := by omega
          clear hC hnum hnum' hL hD hlow hne
          go_wp2_with fail
          refine PK5.mono ?_
          rintro e1 w6 ⟨rfl, p6⟩
          go_wp2_with fail
          refine (L5 _).mono ?_
          rintro e1 w7 ⟨rfl, rfl⟩
          go_wp2_with fail
          refine (D5 _).mono ?_
          rintro e1 w8 ⟨rfl, rfl⟩
          have k6 := k5.pur p6
          have q0 := k6.q0
          have q1 := k6.q1
          have B6 := (B.chg G5).purd p6
          have WD : ∀ w' (hp : Pur w6 w'), Calls Tryz.prog 46 #[.string ⟨(sub l i e).toArray⟩] w' fun e' w'' => e' = .returned (.string ⟨(w16 (sub l i e)).toArray⟩) ∧ Pur w' w'' := fun w' hp => by
            have W0 := wide_any (sub l i e) w' (B6.purd hp).w.tabs hslen
            rw [WP] at W0
            generalize sub l i e = s at *
            generalize w16 s = u at *
            go_enter Tryz.func46, Tryz.ntmps46
            go_wp2_with fail
            refine W0.mono ?_
            rintro e w1 ⟨rfl, p1⟩
            go_wp2
            go_ret
            exact ⟨rfl, p1⟩
          have WX := fun x : PW w6 => WD x.to x.pur
          go_wp2
          refine wp_region_pur_tail 11 (by kernel_rfl) (by kernel_rfl) ?_
          simp only [List.take_succ_cons, List.take_zero, List.drop_succ_cons, List.drop_zero]
          repeat (go_big_quiet_step (((go_at_call 46; with_reducible exact quiet_pur (WX _)))))
          refine wpQuiet_nil ?_
          intro wq hq
          go_wp2_with fail
          refine (hN _ hCe _ (B6.purd hq).pur).mono ?_
          rintro e1 w9 ⟨⟨x, rfl, hx⟩, p9⟩
          go_wp2
          go_ret2
          rw [HS.out]
          exact ⟨⟨x, hx, rfl⟩, (k6.pur hq).pur p9, ((G5.pur p6).pur hq).pur p9⟩
        · rw [hL] at L5
          rw [hD] at D5
          rw [hL, hD] at hnum
          have HS := Lib.hid (show numeral l i = none from hnum)
          clear hC hnum hL hD
          go_wp2_with fail
          refine PK5.mono ?_
          rintro e1 w6 ⟨rfl, p6⟩
          go_wp2_with fail
          refine (L5 _).mono ?_
          rintro e1 w7 ⟨rfl, rfl⟩
          go_wp2_with fail
          refine (D5 _).mono ?_
          rintro e1 w8 ⟨rfl, rfl⟩
          go_wp2
          go_ret2
          rw [HS.out]
          exact ⟨rfl, ⟨_, k5.pur p6⟩, G5.pur p6⟩
      · rw [hL] at L5
        rw [hL] at hnum
        have HS := Lib.hid (show numeral l i = none from hnum)
        clear hC hnum hL
        go_wp2_with fail
        refine PK5.mono ?_
        rintro e1 w6 ⟨rfl, p6⟩
        go_wp2_with fail
        refine (L5 _).mono ?_
        rintro e1 w7 ⟨rfl, rfl⟩
        go_wp2
        go_ret2
        rw [HS.out]
        exact ⟨rfl, ⟨_, k5.pur p6⟩, G5.pur p6⟩
end Lx
end Go.Proofs.YtepmneongpbglaaGreatDoor
