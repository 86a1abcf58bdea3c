/- The library's reading of a number's text by sixteens. The library's rounding of a number written by sixteens. ParseFloat at a number written by sixteens (small and whole). -/
import Derived.Test.YtepmneongpbglaaGreatDoorRf1
import Derived.Test.YtepmneongpbglaaGreatDoorBlk
import Derived.Laws.ShiftsVarLaws
import Derived.LaidEqlPtr
namespace Go.Proofs.YtepmneongpbglaaGreatDoor
open Go Go.RowKit
set_option linter.all false
namespace Rf
set_option maxRecDepth 100000 in
set_option maxHeartbeats 32000000 in
theorem readFloat_hex (l : List UInt8) (w : World) (hl : l.length ≤ 1000000) (h0 : 0 < l.length) (hU : ∀ i, by8 l i ≠ 95) (hW : Whole l (hexAt l (sgn l)) (from0 l)) (hH : hexAt l (sgn l) = true) :
    Calls Tryz.prog 88 #[.string ⟨l.toArray⟩] w fun e w' => RfPost l w e w' := by
  have hb0 := by8_lt l 0
  have h0' : (0 : Int) < l.length := by omega
  have hne : ¬ l = [] := by intro e; rw [e] at h0; simp at h0
  go_enter Tryz.func88, Tryz.ntmps88
  go_wp2
  go_step3
  go_upto_if 24 with (fail)
  go_step
  go_step
  go_simp
  go_step
  go_step
  go_cut [4, 7] from 25 to 35 (fun t i wx => t = .bool (neg l) ∧ i = .int .i64 (sgn l : Int) ∧ w = wx)
  case first =>
    by_cases g1 : by8 l 0 = 43
    · have H1 := Lib.hid (show neg l = false by unfold neg; rw [g1]; rfl)
      have H2 := Lib.hid (show sgn l = 1 by unfold sgn; rw [if_pos (.inl g1)])
      have d1 : ((by8 l 0 : Int) == 43) = true := by rw [beq_iff_eq]; omega
      clear g1 hU hW hH
      go_wp2
      go_meet
      exact ⟨by rw [H1.out], by rw [H2.out]; rfl, rfl⟩
    by_cases g2 : by8 l 0 = 45
    · have H1 := Lib.hid (show neg l = true by unfold neg; rw [g2]; rfl)
      have H2 := Lib.hid (show sgn l = 1 by unfold sgn; rw [if_pos (.inr g2)])
      have d1 : ((by8 l 0 : Int) == 43) = false := by rw [beq_eq_false_iff_ne]; omega
      have d2 : ((by8 l 0 : Int) == 45) = true := by rw [beq_iff_eq]; omega
      clear g1 g2 hU hW hH
      go_wp2
      go_meet
      exact ⟨by rw [H1.out], by rw [H2.out]; rfl, rfl⟩
    · have H1 := Lib.hid (show neg l = false by unfold neg; rw [beq_eq_false_iff_ne]; exact g2)
      have H2 := Lib.hid (show sgn l = 0 by unfold sgn; rw [if_neg (by omega)])
      have d1 : ((by8 l 0 : Int) == 43) = false := by rw [beq_eq_false_iff_ne]; omega
      have d2 : ((by8 l 0 : Int) == 45) = false := by rw [beq_eq_false_iff_ne]; omega
      clear g1 g2 hU hW hH
      go_wp2
      go_meet
      exact ⟨by rw [H1.out], by rw [H2.out]; rfl, rfl⟩
  case rest =>
    obtain ⟨rfl, rfl, rfl⟩ := hcut
    obtain ⟨i0, hi0⟩ : ∃ i0, sgn l = i0 := ⟨_, rfl⟩
    have hi1 : i0 ≤ 1 := by rw [← hi0]; unfold sgn; split <;> omega
    have hRf : ∀ e w', RfPost l w e w' = (e = .returned (.tuple #[.int .u64 ((digs l (hexAt l i0) (from0 l)).mant : Int), .int .i64 (pow l (hexAt l i0) (from0 l)), .bool (neg l), .bool (digs l (hexAt l i0) (from0 l)).trunc, .bool (hexAt l i0), .int .i64 (l.length : Int), .bool true]) ∧ w = w') := fun e w' => by unfold RfPost; rw [hi0]
    have HR := Lib.hid hRf
    have hf0 : from0 l = if hexAt l i0 then i0 + 2 else i0 := by unfold from0; rw [hi0]
    rw [hi0] at hW hH ⊢
    have hb0 := by8_lt l i0
    have hb1 := by8_lt l (i0 + 1)
    have hx : hexAt l i0 = (decide (i0 + 2 < l.length) && ((by8 l i0 == 48) && ((by8 l (i0 + 1) ||| 32) == 120))) := rfl
    clear hRf hi0
    generalize neg l = ng at *
    obtain ⟨hx0, hX⟩ : ∃ x, hexAt l i0 = x := ⟨_, rfl⟩
    rw [hX] at hx hf0 hW HR hH
    obtain ⟨F0, hF⟩ : ∃ F, from0 l = F := ⟨_, rfl⟩
    rw [hF] at hf0 hW HR
    clear hX hF
    have w2 : IntKind.i64.wrap ((i0 : Int) + 2) = (i0 : Int) + 2 := IntWalk.i64_in _ (by omega)
    have w1 : IntKind.i64.wrap ((i0 : Int) + 1) = (i0 : Int) + 1 := IntWalk.i64_in _ (by omega)
    have LW := fun w => lower_any (by8 l (i0 + 1)) w hb1
    go_upto_region 12 with (fail)
    go_cut [54] from 36 to 54 (fun t wx => t = .bool hx0 ∧ w = wx)
    case first =>
      clear hW hf0 hU hH
      by_cases g1 : i0 + 2 < l.length
      · have g1' : (i0 : Int) + 2 < l.length := by omega
        have g2' : (i0 : Int) < l.length := by omega
        have g3' : (i0 : Int) + 1 < l.length := by omega
        have n1 : ((i0 : Int) + 1).toNat = i0 + 1 := by omega
        rw [decide_eq_true g1] at hx
        rcases g2 : (by8 l i0 == 48) with _ | _
        · have d1 : ((by8 l i0 : Int) == 48) = false := by rw [beq_eq_false_iff_ne] at g2 ⊢; omega
          rw [g2] at hx
          have HX := Lib.hid hx
          clear hx g2 LW
          go_wp2
          go_meet
          exact ⟨by rw [HX.out]; rfl, rfl⟩
        · have d1 : ((by8 l i0 : Int) == 48) = true := by rw [beq_iff_eq] at g2 ⊢; omega
          rw [g2] at hx
          have d2 : ((((by8 l (i0 + 1) ||| 32) : Nat) : Int) == 120) = (by8 l (i0 + 1) ||| 32 == 120) := by rw [Bool.eq_iff_iff, beq_iff_eq, beq_iff_eq]; omega
          generalize hO : by8 l (i0 + 1) ||| 32 = o at *
          clear hO
          rcases g3 : (o == 120) with _ | _
          all_goals
            rw [g3] at hx d2
            have HX := Lib.hid hx
            clear hx g2 g3
            go_wp2_with fail
            refine (LW _).mono ?_
            rintro e w1 ⟨rfl, rfl⟩
            go_wp2
            go_meet
            exact ⟨by rw [HX.out]; rfl, rfl⟩
      · have g1' : ¬ (i0 : Int) + 2 < l.length := by omega
        rw [decide_eq_false g1] at hx
        have HX := Lib.hid hx
        clear hx LW
        go_wp2
        go_meet
        exact ⟨by rw [HX.out]; rfl, rfl⟩
    case rest =>
      obtain ⟨rfl, rfl⟩ := hcut
      have hF1 : F0 ≤ 3 := by rw [hf0]; split <;> omega
      have hF2 : F0 ≤ l.length := by
        rw [hf0]
        by_cases e : hx0 = true
        · have h2 := hx
          rw [e] at h2
          have h3 := h2.symm
          rw [Bool.and_eq_true, decide_eq_true_eq] at h3
          have h4 := h3.1
          rw [if_pos e]
          omega
        · rw [if_neg e]
          omega
      clear hx LW hb0 hb1
      rcases hx0 with _ | _
      · exact absurd hH (by decide)
      · clear hH
        rw [if_pos rfl] at hf0
        have hF0 : (F0 : Int) = (i0 : Int) + 2 := by rw [hf0]; push_cast; rfl
        have HF0 := Lib.hid hF0
        clear hF0 hf0
        obtain ⟨S, hS⟩ : ∃ S, digs l true F0 = S := ⟨_, rfl⟩
        have hSi := go_inv l true (l.length + 1) (start F0) (start_inv _ _)
        have hSs := fun h => go_stop l true (l.length + 1) (start F0) (by show l.length < F0 + (l.length + 1); omega) h
        rw [show go l true (l.length + 1) (start F0) = S from hS] at hSi hSs
        have HS := Lib.hid (show S = go l true (l.length + 1) (start F0) from hS.symm)
        have hSl := hSi.2 hF2
        unfold Whole at hW
        rw [hS] at hW HR
        have HP := Lib.hid (show pow l true F0 = if S.mant = 0 then 0 else dpOf true S + exPart l S.i - (S.nm : Int) * (if true then 4 else 1) by unfold pow; rw [hS])
        have hdig := hW.1
        have HW := Lib.hid hW.2
        have HI := Lib.hid hSi.1
        clear hW hSi hS hSs
        go_upto_block 1 with (fail)
        go_step3
        go_upto_block 1 with (fail)
        go_cut [2, 5, 7, 9, 13, 14, 15, 16, 17] from 57 to 138 (fun m tr i us dt dg nd nm dp wx => m = .int .u64 (S.mant : Int) ∧ tr = .bool S.trunc ∧ i = .int .i64 (S.i : Int) ∧ us = .bool false ∧ dt = .bool S.dot ∧ dg = .bool S.dig ∧ nd = .int .i64 (S.nd : Int) ∧ nm = .int .i64 (S.nm : Int) ∧ dp = .int .i64 S.dp ∧ w = wx)
        case first =>
          clear HR HP hdig
          go_wp2_with fail
          go_loopw [2, 5, 7, 9, 13, 14, 15, 16, 17] (fun m tr i us dt dg nd nm dp wr => ∃ (s : Rs) (f : Nat), m = .int .u64 (s.mant : Int) ∧ tr = .bool s.trunc ∧ i = .int .i64 (s.i : Int) ∧ us = .bool false ∧ dt = .bool s.dot ∧ dg = .bool s.dig ∧ nd = .int .i64 (s.nd : Int) ∧ nm = .int .i64 (s.nm : Int) ∧ dp = .int .i64 s.dp ∧ wr = w ∧ s.i ≤ l.length ∧ l.length < s.i + f ∧ Inv true s ∧ Hid (S = go l true f s)) (fun _ _ i _ _ _ _ _ _ _ => l.length + 1 - (intOf i).toNat)
          case atStart => exact ⟨start F0, l.length + 1, rfl, rfl, by rw [show ((start F0).i : Int) = (F0 : Int) from rfl, HF0.out], rfl, rfl, rfl, rfl, rfl, rfl, rfl, hF2, by show l.length < F0 + (l.length + 1); omega, start_inv _ _, HS⟩
          case round =>
            obtain ⟨⟨i, mant, nd, nm, dp, dt, dg, tr⟩, f, rfl, rfl, rfl, rfl, rfl, rfl, rfl, rfl, rfl, rfl, i1, i2, hI, H⟩ := hrel
            obtain ⟨q1, q2, q3, q4, q5⟩ := id hI
            simp only at i1 i2 q1 q2 q3 q4 q5
            have q2' : nm ≤ 16 := q2
            clear HS q2 q3
            obtain ⟨f, rfl⟩ : ∃ g, f = g + 1 := ⟨f - 1, by omega⟩
            have wi : IntKind.i64.wrap ((i : Int) + 1) = (i : Int) + 1 := IntWalk.i64_in _ (by omega)
            have wd : IntKind.i64.wrap ((nd : Int) + 1) = (nd : Int) + 1 := IntWalk.i64_in _ (by omega)
            have wm : IntKind.i64.wrap ((nm : Int) + 1) = (nm : Int) + 1 := IntWalk.i64_in _ (by omega)
            have wp : IntKind.i64.wrap (dp - 1) = dp - 1 := IntWalk.i64_in _ (by omega)
            by_cases hlt : i < l.length
            · have hlt' : (i : Int) < l.length := by omega
              have HG := Lib.hid (show S = (match step true (by8 l i) ⟨i, mant, nd, nm, dp, dt, dg, tr⟩ with | some t => go l true f t | none => ⟨i, mant, nd, nm, dp, dt, dg, tr⟩) by rw [H.out, go, if_pos hlt]; rfl)
              have hb := by8_lt l i
              have hu := hU i
              have LWc := fun w => lower_any (by8 l i) w hb
              clear H
              have hd95 : (((by8 l i) : Int) == 95) = false := by rw [beq_eq_false_iff_ne]; omega
              clear hU hu
              by_cases h46 : (by8 l i) = 46
              · have d46 : ((by8 l i : Int) == 46) = true := by rw [beq_iff_eq]; omega
                rcases dt with _ | _
                · have HN := Lib.hid (show S = go l true f ⟨i + 1, mant, nd, nm, nd, true, dg, tr⟩ by rw [HG.out, h46, step_dot])
                  have hI2 := (step_inv hI (show 46 < 256 by decide) (step_dot (hex := true) (i := i) (m := mant) (nd := nd) (nm := nm) (dp := dp) (dg := dg) (tr := tr))).1
                  clear HG hI LWc HW h46
                  go_wp2
                  go_roundw
                  case rel => exact ⟨⟨i + 1, mant, nd, nm, nd, true, dg, tr⟩, f, rfl, rfl, by go_num, rfl, rfl, rfl, rfl, rfl, rfl, (by first | rfl | trivial), by show i + 1 ≤ _; omega, by show _ < i + 1 + f; omega, hI2, HN⟩
                  case measure => simp [intOf]; omega
                · exfalso
                  have hSS : S = ⟨i, mant, nd, nm, dp, true, dg, tr⟩ := by rw [HG.out, h46, step_dot2]
                  rcases HW.out with ⟨h, -⟩ | ⟨h1, h2, -⟩
                  · rw [hSS] at h; simp only at h; omega
                  · rw [hSS] at h2; simp only at h2; rw [h46] at h2; revert h2; decide
              have d46 : (((by8 l i) : Int) == 46) = false := by rw [beq_eq_false_iff_ne]; omega
              rcases hdg : digC (by8 l i) with _ | _
              · have hdd : (decide ((48 : Int) ≤ ((by8 l i) : Int)) && decide (((by8 l i) : Int) ≤ 57)) = false := by
                  rw [← hdg]; simp only [digC]; congr 1 <;> rw [decide_eq_decide] <;> omega
                have hh' : hexC (by8 l i) = (decide (97 ≤ ((by8 l i) ||| 32)) && decide (((by8 l i) ||| 32) ≤ 102)) := rfl
                have e1 : decide ((97 : Int) ≤ (((by8 l i) ||| 32 : Nat) : Int)) = decide (97 ≤ ((by8 l i) ||| 32)) := by rw [decide_eq_decide]; omega
                have e2 : decide ((((by8 l i) ||| 32 : Nat) : Int) ≤ 102) = decide (((by8 l i) ||| 32) ≤ 102) := by rw [decide_eq_decide]; omega
                rcases hhx : hexC (by8 l i) with _ | _
                · have HN := Lib.hid (show S = ⟨i, mant, nd, nm, dp, dt, dg, tr⟩ by rw [HG.out, step_none h46 hdg (by rw [hhx]; rfl)])
                  rw [hhx] at hh'
                  clear HG hI HW hdg hhx
                  generalize hoo : (by8 l i) ||| 32 = o at *
                  clear hoo
                  rcases o1 : decide (97 ≤ o) with _ | _ <;> rcases o2 : decide (o ≤ 102) with _ | _ <;> rcases o3 : decide ((48 : Int) ≤ ((by8 l i) : Int)) with _ | _ <;> rcases o4 : decide (((by8 l i) : Int) ≤ 57) with _ | _
                  all_goals
                    rw [o1, o2] at hh'
                    rw [o3, o4] at hdd
                    rw [o1] at e1
                    rw [o2] at e2
                    first
                      | exact absurd hh' (by decide)
                      | exact absurd hdd (by decide)
                      | (exfalso; rw [decide_eq_false_iff_not] at o3 o4; omega)
                      | (exfalso; rw [decide_eq_false_iff_not] at o1 o2; omega)
                      | (skip
                         clear hh' hdd o1 o2
                         go_wp2_with (first | (go_at_call 104; refine (LWc _).mono ?_; rintro e w1 ⟨rfl, rfl⟩))
                         go_meet
                         rw [HN.out]
                         exact ⟨rfl, rfl, rfl, rfl, rfl, rfl, rfl, rfl, rfl, rfl⟩)
                · have ho := hexC_lt (by8 l i) hb hhx
                  rw [hhx] at hh'
                  have h97 : 97 ≤ ((by8 l i) ||| 32) := by (simp only [hexC, Bool.and_eq_true, decide_eq_true_eq] at hhx; exact hhx.1)
                  have w8 : IntKind.u8.wrap ((((by8 l i) ||| 32 : Nat) : Int) - 97) = (((by8 l i) ||| 32 : Nat) : Int) - 97 := IntWalk.u8_in _ (by omega)
                  have w9 : IntKind.u8.wrap ((((by8 l i) ||| 32 : Nat) : Int) - 97 + 10) = (((by8 l i) ||| 32 : Nat) : Int) - 97 + 10 := IntWalk.u8_in _ (by omega)
                  by_cases hn : nm < 16
                  · have hn' : (nm : Int) < 16 := by omega
                    have n64 := hI.next64 hn (d := ((by8 l i) ||| 32) - 87) ho.1
                    have HN := Lib.hid (show S = go l true f ⟨i + 1, mant * 16 + (((by8 l i) ||| 32) - 87), nd + 1, nm + 1, dp, dt, true, tr⟩ by rw [HG.out, step_hex h46 hdg hhx hn])
                    have hI2 := (step_inv hI hb (step_hex h46 hdg hhx hn (dp := dp) (dt := dt) (dg := dg) (tr := tr) (i := i) (m := mant) (nd := nd))).1
                    simp only [bs, if_true] at n64
                    have wm1 : IntKind.u64.wrap ((mant : Int) * 16) = (mant : Int) * 16 := IntWalk.u64_in _ (by omega)
                    have wm2 : IntKind.u64.wrap ((mant : Int) * 16 + ((((by8 l i) ||| 32 : Nat) : Int) - 97 + 10)) = (mant : Int) * 16 + ((((by8 l i) ||| 32 : Nat) : Int) - 97 + 10) := IntWalk.u64_in _ (by omega)
                    have hv : (mant : Int) * 16 + ((((by8 l i) ||| 32 : Nat) : Int) - 97 + 10) = ((mant * 16 + (((by8 l i) ||| 32) - 87) : Nat) : Int) := by have := ho.2.1; omega
                    have HV := Lib.hid hv
                    clear HG hI HW hdg hhx n64 hv
                    generalize hoo : (by8 l i) ||| 32 = o at *
                    clear hoo
                    rcases o1 : decide (97 ≤ o) with _ | _ <;> rcases o2 : decide (o ≤ 102) with _ | _ <;> rcases o3 : decide ((48 : Int) ≤ ((by8 l i) : Int)) with _ | _ <;> rcases o4 : decide (((by8 l i) : Int) ≤ 57) with _ | _
                    all_goals
                      rw [o1, o2] at hh'
                      rw [o3, o4] at hdd
                      rw [o1] at e1
                      rw [o2] at e2
                      first
                        | exact absurd hh' (by decide)
                        | exact absurd hdd (by decide)
                        | (exfalso; rw [decide_eq_false_iff_not] at o3 o4; omega)
                        | (exfalso; rw [decide_eq_false_iff_not] at o1 o2; omega)
                        | (skip
                           clear hh' hdd o1 o2
                           go_wp2_with (first | (go_at_call 104; refine (LWc _).mono ?_; rintro e w1 ⟨rfl, rfl⟩))
                           go_roundw
                           case rel => exact ⟨⟨i + 1, mant * 16 + (o - 87), nd + 1, nm + 1, dp, dt, true, tr⟩, f, by rw [HV.out], rfl, by go_num, rfl, rfl, rfl, by go_num, by go_num, rfl, (by first | rfl | trivial), by show i + 1 ≤ _; omega, by show _ < i + 1 + f; omega, hI2, HN⟩
                           case measure => simp [intOf]; omega)
                  · have hn' : ¬ (nm : Int) < 16 := by omega
                    have HN := Lib.hid (show S = go l true f ⟨i + 1, mant, nd + 1, nm, dp, dt, true, true⟩ by rw [HG.out, step_hexo h46 hdg hhx hn])
                    have hI2 := (step_inv hI hb (step_hexo h46 hdg hhx hn (dp := dp) (dt := dt) (dg := dg) (tr := tr) (i := i) (m := mant) (nd := nd))).1
                    clear HG hI HW hdg hhx w8 w9
                    generalize hoo : (by8 l i) ||| 32 = o at *
                    clear hoo
                    rcases o1 : decide (97 ≤ o) with _ | _ <;> rcases o2 : decide (o ≤ 102) with _ | _ <;> rcases o3 : decide ((48 : Int) ≤ ((by8 l i) : Int)) with _ | _ <;> rcases o4 : decide (((by8 l i) : Int) ≤ 57) with _ | _
                    all_goals
                      rw [o1, o2] at hh'
                      rw [o3, o4] at hdd
                      rw [o1] at e1
                      rw [o2] at e2
                      first
                        | exact absurd hh' (by decide)
                        | exact absurd hdd (by decide)
                        | (exfalso; rw [decide_eq_false_iff_not] at o3 o4; omega)
                        | (exfalso; rw [decide_eq_false_iff_not] at o1 o2; omega)
                        | (skip
                           clear hh' hdd o1 o2
                           go_wp2_with (first | (go_at_call 104; refine (LWc _).mono ?_; rintro e w1 ⟨rfl, rfl⟩))
                           go_roundw
                           case rel => exact ⟨⟨i + 1, mant, nd + 1, nm, dp, dt, true, true⟩, f, rfl, rfl, by go_num, rfl, rfl, rfl, by go_num, rfl, rfl, (by first | rfl | trivial), by show i + 1 ≤ _; omega, by show _ < i + 1 + f; omega, hI2, HN⟩
                           case measure => simp [intOf]; omega)
              · have hdd := hdg
                simp only [digC, Bool.and_eq_true, decide_eq_true_eq] at hdd
                have o3 : decide ((48 : Int) ≤ ((by8 l i) : Int)) = true := by rw [decide_eq_true_eq]; omega
                have o4 : decide (((by8 l i) : Int) ≤ 57) = true := by rw [decide_eq_true_eq]; omega
                have w8 : IntKind.u8.wrap (((by8 l i) : Int) - 48) = ((by8 l i) : Int) - 48 := IntWalk.u8_in _ (by omega)
                clear LWc
                by_cases hz : (by8 l i) = 48 ∧ nd = 0
                · obtain ⟨h48, rfl⟩ := hz
                  have d48 : ((by8 l i : Int) == 48) = true := by rw [beq_iff_eq]; omega
                  have HN := Lib.hid (show S = go l true f ⟨i + 1, mant, 0, nm, dp - 1, dt, true, tr⟩ by rw [HG.out, h48, step_zero])
                  have hI2 := (step_inv hI (show 48 < 256 by decide) (step_zero (hex := true) (i := i) (m := mant) (nm := nm) (dp := dp) (dt := dt) (dg := dg) (tr := tr))).1
                  clear HG hI HW hdg hdd h48 h46 wd
                  go_wp2
                  go_roundw
                  case rel => exact ⟨⟨i + 1, mant, 0, nm, dp - 1, dt, true, tr⟩, f, rfl, rfl, by go_num, rfl, rfl, rfl, rfl, rfl, rfl, (by first | rfl | trivial), by show i + 1 ≤ _; omega, by show _ < i + 1 + f; omega, hI2, HN⟩
                  case measure => simp [intOf]; omega
                · have hz2 : (((by8 l i) : Int) == 48) = ((by8 l i) == 48) := by rw [Bool.eq_iff_iff, beq_iff_eq, beq_iff_eq]; omega
                  have hz3 : ((by8 l i) == 48) = true → ((nd : Int) == 0) = false := fun h => by rw [beq_iff_eq] at h; rw [beq_eq_false_iff_ne]; omega
                  have hz4 : ((by8 l i) == 48) = true → 0 < nd := fun h => by rw [beq_iff_eq] at h; omega
                  by_cases hn : nm < 16
                  · have hn' : (nm : Int) < 16 := by omega
                    have n64 := hI.next64 hn (d := (by8 l i) - 48) (by show (by8 l i) - 48 < 16; omega)
                    have HN := Lib.hid (show S = go l true f ⟨i + 1, mant * 16 + ((by8 l i) - 48), nd + 1, nm + 1, dp, dt, true, tr⟩ by rw [HG.out, step_dig hdg hz hn]; rfl)
                    have hI2 := (step_inv hI hb (step_dig hdg hz hn (dp := dp) (dt := dt) (dg := dg) (tr := tr) (i := i) (m := mant) (nd := nd))).1
                    simp only [bs, if_true, Bool.false_eq_true, if_false] at n64
                    have wm1 : IntKind.u64.wrap ((mant : Int) * 16) = (mant : Int) * 16 := IntWalk.u64_in _ (by omega)
                    have wm2 : IntKind.u64.wrap ((mant : Int) * 16 + (((by8 l i) : Int) - 48)) = (mant : Int) * 16 + (((by8 l i) : Int) - 48) := IntWalk.u64_in _ (by omega)
                    have hv : (mant : Int) * 16 + (((by8 l i) : Int) - 48) = ((mant * 16 + ((by8 l i) - 48) : Nat) : Int) := by omega
                    have HV := Lib.hid hv
                    clear HG hI HW hdg n64 hv hz
                    rcases hz5 : ((by8 l i) == 48) with _ | _
                    all_goals
                      rw [hz5] at hz2 hz3 hz4
                      first
                        | (have hz6 := hz3 rfl; have hz7 := hz4 rfl)
                        | skip
                      clear hz3 hz4 hz5
                      go_wp2
                      go_roundw
                      case rel => exact ⟨⟨i + 1, mant * 16 + ((by8 l i) - 48), nd + 1, nm + 1, dp, dt, true, tr⟩, f, by rw [HV.out], rfl, by go_num, rfl, rfl, rfl, by go_num, by go_num, rfl, (by first | rfl | trivial), by show i + 1 ≤ _; omega, by show _ < i + 1 + f; omega, hI2, HN⟩
                      case measure => simp [intOf]; omega
                  · have hn' : ¬ (nm : Int) < 16 := by omega
                    have HN := Lib.hid (show S = go l true f ⟨i + 1, mant, nd + 1, nm, dp, dt, true, tr || !((by8 l i) == 48)⟩ by rw [HG.out, step_over hdg hz hn])
                    have hI2 := (step_inv hI hb (step_over hdg hz hn (dp := dp) (dt := dt) (dg := dg) (tr := tr) (i := i) (m := mant) (nd := nd))).1
                    clear HG hI HW hdg hz
                    rcases hz5 : ((by8 l i) == 48) with _ | _
                    all_goals
                      rw [hz5] at hz2 hz3 hz4 HN hI2
                      first
                        | (have hz6 := hz3 rfl; have hz7 := hz4 rfl)
                        | skip
                      clear hz3 hz4 hz5
                      go_wp2
                      go_roundw
                      case rel => exact ⟨⟨i + 1, mant, nd + 1, nm, dp, dt, true, _⟩, f, rfl, by simp, by go_num, rfl, rfl, rfl, by go_num, rfl, rfl, (by first | rfl | trivial), by show i + 1 ≤ _; omega, by show _ < i + 1 + f; omega, hI2, HN⟩
                      case measure => simp [intOf]; omega
            · have HN := Lib.hid (show S = ⟨i, mant, nd, nm, dp, dt, dg, tr⟩ by rw [H.out, go, if_neg hlt])
              have hlt' : ¬ (i : Int) < l.length := by omega
              clear H hI hU HW
              go_wp2
              go_meet
              rw [HN.out]
              exact ⟨rfl, rfl, rfl, rfl, rfl, rfl, rfl, rfl, rfl, rfl⟩
        case rest =>
          obtain ⟨rfl, rfl, rfl, rfl, rfl, rfl, rfl, rfl, rfl, rfl⟩ := hcut
          obtain ⟨r1, r2, r3, r4, r5⟩ := HI.out
          have r2' : S.nm ≤ 16 := r2
          clear HI HS r2 r3
          go_upto_if 140 with (fail)
          go_step
          go_step
          go_simp
          go_step
          go_step
          obtain ⟨D, hD⟩ : ∃ D, (if S.dot then S.dp else (S.nd : Int)) = D := ⟨_, rfl⟩
          have hD1 : -(S.i : Int) ≤ D ∧ D ≤ S.i := by rw [← hD]; split <;> omega
          have HD := Lib.hid hD
          have hK : dpOf true S = D * 4 := by unfold dpOf; rw [hD]; rfl
          have HP2 := Lib.hid (show pow l true F0 = if S.mant = 0 then 0 else D * 4 + exPart l S.i - (S.nm : Int) * 4 by rw [HP.out, hK]; rfl)
          clear hD HP hK
          go_cut [13, 17] from 141 to 143 (fun b dp wx => b = .bool S.dot ∧ dp = .int .i64 D ∧ w = wx)
          case first =>
            have hq : Hid (D = if S.dot then S.dp else (S.nd : Int)) := Lib.hid HD.out.symm
            clear HD HW HR HP2
            rcases hdt : S.dot with _ | _
            all_goals
              have hq2 := hq.out
              rw [hdt] at hq2
              have hq3 := Lib.hid hq2
              clear hq hq2
              go_wp2
              go_meet
              exact ⟨by rw [hdt], by rw [hq3.out]; rfl, rfl⟩
          case rest =>
            obtain ⟨rfl, rfl, rfl⟩ := hcut
            obtain ⟨hD2, hD3⟩ := hD1
            clear HD r1 r4 r5
            have v1 : IntKind.i64.wrap (D * 4) = D * 4 := IntWalk.i64_in _ (by omega)
            have v2 : IntKind.i64.wrap ((S.nm : Int) * 4) = (S.nm : Int) * 4 := IntWalk.i64_in _ (by omega)
            rcases HW.out with ⟨hend, hf⟩ | ⟨hM, hM2, hM3, hM4⟩
            · cases hf
            · have hM' : (S.i : Int) < l.length := by omega
              have HP3 := Lib.hid (show pow l true F0 = if S.mant = 0 then 0 else D * 4 + exOf l S.i - (S.nm : Int) * 4 by rw [HP2.out, show exPart l S.i = exOf l S.i from if_pos hM])
              have hbM := by8_lt l S.i
              have LWm := fun w => lower_any (by8 l S.i) w hbM
              rw [show by8 l S.i ||| 32 = 112 from hM2] at LWm
              have hbS := by8_lt l (S.i + 1)
              have w5 : IntKind.i64.wrap ((S.i : Int) + 1) = (S.i : Int) + 1 := IntWalk.i64_in _ (by omega)
              have w6 : IntKind.i64.wrap ((S.i : Int) + 2) = (S.i : Int) + 2 := IntWalk.i64_in _ (by omega)
              have n1 : ((S.i : Int) + 1).toNat = S.i + 1 := by omega
              have n2 : ((S.i : Int) + 2).toNat = S.i + 2 := by omega
              have hA0 : S.i + 1 ≤ exAt l S.i := by unfold exAt; split <;> omega
              have hM5 : (S.i : Int) + 1 < l.length := by omega
              clear HP2 HW hbM hM2
              obtain ⟨E, hE⟩ : ∃ E, exGo l (l.length + 1) (exAt l S.i) 0 = E := ⟨_, rfl⟩
              have hEl := exGo_lt l (l.length + 1) (exAt l S.i) 0 (by omega) hM4
              rw [hE] at hEl
              have hdA := hM4 (exAt l S.i) (Nat.le_refl _) hM3
              simp only [digC, Bool.and_eq_true, decide_eq_true_eq] at hdA
              have hdk : Hid (∀ k, exAt l S.i ≤ k → k < l.length → 48 ≤ by8 l k ∧ by8 l k ≤ 57) := Lib.hid (fun k h1 h2 => by have := hM4 k h1 h2; simpa only [digC, Bool.and_eq_true, decide_eq_true_eq] using this)
              clear hM4
              by_cases g1 : by8 l (S.i + 1) = 43
              · have d1 : ((by8 l (S.i + 1) : Int) == 43) = true := by rw [beq_iff_eq]; omega
                have hat : exAt l S.i = S.i + 2 := by unfold exAt; rw [if_pos (.inl g1)]
                have hof : exOf l S.i = (E : Int) := by unfold exOf; rw [if_neg (by omega), hE]
                rw [hat] at hM3 hdA hdk hE hA0
                rw [hof] at HP3
                have HE := Lib.hid (show E = exGo l (l.length + 1) (S.i + 2) 0 from hE.symm)
                have hA' : ((S.i : Int) + 2) < l.length := by omega
                have x1 : decide (((by8 l (S.i + 2) : Nat) : Int) < 48) = false := by rw [decide_eq_false_iff_not]; omega
                have x2 : decide ((57 : Int) < ((by8 l (S.i + 2) : Nat) : Int)) = false := by rw [decide_eq_false_iff_not]; omega
                clear hof hat hE g1
                go_wp2_with (first | (go_at_call 104; refine (LWm _).mono ?_; rintro e w1 ⟨rfl, rfl⟩))
                go_loopw [7, 9, 20] (fun i us e wr => ∃ (k x f : Nat), i = .int .i64 (k : Int) ∧ us = .bool false ∧ e = .int .i64 (x : Int) ∧ (S.i + 2) ≤ k ∧ k ≤ l.length ∧ l.length < k + f ∧ x < 100010 ∧ wr = w ∧ Hid (E = exGo l f k x)) (fun i _ _ _ => l.length + 1 - (intOf i).toNat)
                case atStart => exact ⟨(S.i + 2), 0, l.length + 1, by push_cast; rfl, rfl, rfl, by omega, by omega, by omega, by omega, (by first | rfl | trivial), HE⟩
                case round =>
                  obtain ⟨k, x, f, rfl, rfl, rfl, k1, k2, k3, x3, rfl, HX⟩ := hrel
                  obtain ⟨f, rfl⟩ : ∃ g, f = g + 1 := ⟨f - 1, by omega⟩
                  clear HE x1 x2
                  by_cases hk : k < l.length
                  · have hk' : (k : Int) < l.length := by omega
                    have hd := hdk.out k k1 hk
                    have y1 : decide ((48 : Int) ≤ ((by8 l k : Nat) : Int)) = true := by rw [decide_eq_true_eq]; omega
                    have y2 : decide (((by8 l k : Nat) : Int) ≤ 57) = true := by rw [decide_eq_true_eq]; omega
                    have y3 : ((by8 l k : Int) == 95) = false := by rw [beq_eq_false_iff_ne]; omega
                    have wk : IntKind.i64.wrap ((k : Int) + 1) = (k : Int) + 1 := IntWalk.i64_in _ (by omega)
                    clear hdA hU
                    by_cases hx4 : x < 10000
                    · have hx4' : (x : Int) < 10000 := by omega
                      have HN := Lib.hid (show E = exGo l f (k + 1) (x * 10 + (by8 l k - 48)) by rw [HX.out, exGo, if_pos hk, if_pos hx4])
                      have hv := Lib.hid (show (x : Int) * 10 + (by8 l k : Int) - 48 = ((x * 10 + (by8 l k - 48) : Nat) : Int) by omega)
                      clear HX
                      go_wp2
                      go_roundw
                      case rel => exact ⟨k + 1, x * 10 + (by8 l k - 48), f, by go_num, rfl, by rw [← hv.out], by omega, by omega, by omega, by omega, (by first | rfl | trivial), HN⟩
                      case measure => simp [intOf]; omega
                    · have hx4' : ¬ (x : Int) < 10000 := by omega
                      have HN := Lib.hid (show E = exGo l f (k + 1) x by rw [HX.out, exGo, if_pos hk, if_neg hx4])
                      clear HX
                      go_wp2
                      go_roundw
                      case rel => exact ⟨k + 1, x, f, by go_num, rfl, rfl, by omega, by omega, by omega, by omega, (by first | rfl | trivial), HN⟩
                      case measure => simp [intOf]; omega
                  · have hk' : ¬ (k : Int) < l.length := by omega
                    obtain rfl : k = l.length := by omega
                    have HN : E = x := by rw [HX.out, exGo, if_neg hk]
                    subst HN
                    have t1 : IntKind.i64.wrap (D * 4 + (E : Int)) = D * 4 + (E : Int) := IntWalk.i64_in _ (by omega)
                    have t2 : IntKind.i64.wrap (D * 4 + (E : Int) - (S.nm : Int) * 4) = D * 4 + (E : Int) - (S.nm : Int) * 4 := IntWalk.i64_in _ (by omega)
                    clear HX hdk hdA hU
                    by_cases hm : S.mant = 0
                    · have d3 : ((S.mant : Int) != 0) = false := by rw [hm]; rfl
                      have HP4 := Lib.hid (show pow l true F0 = 0 by rw [HP3.out, if_pos hm])
                      clear hm HP3
                      go_wp2
                      refine bodyPost_ret (v := .tuple #[.int .u64 (S.mant : Int), .int .i64 0, .bool ng, .bool S.trunc, .bool true, .int .i64 (l.length : Int), .bool true]) (by simp [results, Tryz.results88, go_sem]) rfl ?_
                      rw [HR.out, HP4.out]
                      exact ⟨rfl, rfl⟩
                    · have d3 : ((S.mant : Int) != 0) = true := by rw [bne_iff_ne]; omega
                      have HP4 := Lib.hid (show pow l true F0 = D * 4 + (E : Int) - (S.nm : Int) * 4 by rw [HP3.out, if_neg hm])
                      clear hm HP3
                      go_wp2
                      refine bodyPost_ret (v := .tuple #[.int .u64 (S.mant : Int), .int .i64 (D * 4 + (E : Int) - (S.nm : Int) * 4), .bool ng, .bool S.trunc, .bool true, .int .i64 (l.length : Int), .bool true]) (by simp [results, Tryz.results88, go_sem]) rfl ?_
                      rw [HR.out, HP4.out]
                      exact ⟨rfl, rfl⟩
              by_cases g2 : by8 l (S.i + 1) = 45
              · have d1 : ((by8 l (S.i + 1) : Int) == 43) = false := by rw [beq_eq_false_iff_ne]; omega
                have d2 : ((by8 l (S.i + 1) : Int) == 45) = true := by rw [beq_iff_eq]; omega
                have hat : exAt l S.i = S.i + 2 := by unfold exAt; rw [if_pos (.inr g2)]
                have hof : exOf l S.i = -(E : Int) := by unfold exOf; rw [if_pos g2, hE]
                rw [hat] at hM3 hdA hdk hE hA0
                rw [hof] at HP3
                have HE := Lib.hid (show E = exGo l (l.length + 1) (S.i + 2) 0 from hE.symm)
                have hA' : ((S.i : Int) + 2) < l.length := by omega
                have x1 : decide (((by8 l (S.i + 2) : Nat) : Int) < 48) = false := by rw [decide_eq_false_iff_not]; omega
                have x2 : decide ((57 : Int) < ((by8 l (S.i + 2) : Nat) : Int)) = false := by rw [decide_eq_false_iff_not]; omega
                clear hof hat hE g2
                go_wp2_with (first | (go_at_call 104; refine (LWm _).mono ?_; rintro e w1 ⟨rfl, rfl⟩))
                go_loopw [7, 9, 20] (fun i us e wr => ∃ (k x f : Nat), i = .int .i64 (k : Int) ∧ us = .bool false ∧ e = .int .i64 (x : Int) ∧ (S.i + 2) ≤ k ∧ k ≤ l.length ∧ l.length < k + f ∧ x < 100010 ∧ wr = w ∧ Hid (E = exGo l f k x)) (fun i _ _ _ => l.length + 1 - (intOf i).toNat)
                case atStart => exact ⟨(S.i + 2), 0, l.length + 1, by push_cast; rfl, rfl, rfl, by omega, by omega, by omega, by omega, (by first | rfl | trivial), HE⟩
                case round =>
                  obtain ⟨k, x, f, rfl, rfl, rfl, k1, k2, k3, x3, rfl, HX⟩ := hrel
                  obtain ⟨f, rfl⟩ : ∃ g, f = g + 1 := ⟨f - 1, by omega⟩
                  clear HE x1 x2
                  by_cases hk : k < l.length
                  · have hk' : (k : Int) < l.length := by omega
                    have hd := hdk.out k k1 hk
                    have y1 : decide ((48 : Int) ≤ ((by8 l k : Nat) : Int)) = true := by rw [decide_eq_true_eq]; omega
                    have y2 : decide (((by8 l k : Nat) : Int) ≤ 57) = true := by rw [decide_eq_true_eq]; omega
                    have y3 : ((by8 l k : Int) == 95) = false := by rw [beq_eq_false_iff_ne]; omega
                    have wk : IntKind.i64.wrap ((k : Int) + 1) = (k : Int) + 1 := IntWalk.i64_in _ (by omega)
                    clear hdA hU
                    by_cases hx4 : x < 10000
                    · have hx4' : (x : Int) < 10000 := by omega
                      have HN := Lib.hid (show E = exGo l f (k + 1) (x * 10 + (by8 l k - 48)) by rw [HX.out, exGo, if_pos hk, if_pos hx4])
                      have hv := Lib.hid (show (x : Int) * 10 + (by8 l k : Int) - 48 = ((x * 10 + (by8 l k - 48) : Nat) : Int) by omega)
                      clear HX
                      go_wp2
                      go_roundw
                      case rel => exact ⟨k + 1, x * 10 + (by8 l k - 48), f, by go_num, rfl, by rw [← hv.out], by omega, by omega, by omega, by omega, (by first | rfl | trivial), HN⟩
                      case measure => simp [intOf]; omega
                    · have hx4' : ¬ (x : Int) < 10000 := by omega
                      have HN := Lib.hid (show E = exGo l f (k + 1) x by rw [HX.out, exGo, if_pos hk, if_neg hx4])
                      clear HX
                      go_wp2
                      go_roundw
                      case rel => exact ⟨k + 1, x, f, by go_num, rfl, rfl, by omega, by omega, by omega, by omega, (by first | rfl | trivial), HN⟩
                      case measure => simp [intOf]; omega
                  · have hk' : ¬ (k : Int) < l.length := by omega
                    obtain rfl : k = l.length := by omega
                    have HN : E = x := by rw [HX.out, exGo, if_neg hk]
                    subst HN
                    have t1 : IntKind.i64.wrap (D * 4 + -(E : Int)) = D * 4 + -(E : Int) := IntWalk.i64_in _ (by omega)
                    have t2 : IntKind.i64.wrap (D * 4 + -(E : Int) - (S.nm : Int) * 4) = D * 4 + -(E : Int) - (S.nm : Int) * 4 := IntWalk.i64_in _ (by omega)
                    clear HX hdk hdA hU
                    by_cases hm : S.mant = 0
                    · have d3 : ((S.mant : Int) != 0) = false := by rw [hm]; rfl
                      have HP4 := Lib.hid (show pow l true F0 = 0 by rw [HP3.out, if_pos hm])
                      clear hm HP3
                      go_wp2
                      refine bodyPost_ret (v := .tuple #[.int .u64 (S.mant : Int), .int .i64 0, .bool ng, .bool S.trunc, .bool true, .int .i64 (l.length : Int), .bool true]) (by simp [results, Tryz.results88, go_sem]) rfl ?_
                      rw [HR.out, HP4.out]
                      exact ⟨rfl, rfl⟩
                    · have d3 : ((S.mant : Int) != 0) = true := by rw [bne_iff_ne]; omega
                      have HP4 := Lib.hid (show pow l true F0 = D * 4 + -(E : Int) - (S.nm : Int) * 4 by rw [HP3.out, if_neg hm])
                      clear hm HP3
                      go_wp2
                      refine bodyPost_ret (v := .tuple #[.int .u64 (S.mant : Int), .int .i64 (D * 4 + -(E : Int) - (S.nm : Int) * 4), .bool ng, .bool S.trunc, .bool true, .int .i64 (l.length : Int), .bool true]) (by simp [results, Tryz.results88, go_sem]) rfl ?_
                      rw [HR.out, HP4.out]
                      exact ⟨rfl, rfl⟩
              have d1 : ((by8 l (S.i + 1) : Int) == 43) = false := by rw [beq_eq_false_iff_ne]; omega
              have d2 : ((by8 l (S.i + 1) : Int) == 45) = false := by rw [beq_eq_false_iff_ne]; omega
              have hat : exAt l S.i = S.i + 1 := by unfold exAt; rw [if_neg (by omega)]
              have hof : exOf l S.i = (E : Int) := by unfold exOf; rw [if_neg (by omega), hE]
              rw [hat] at hM3 hdA hdk hE hA0
              rw [hof] at HP3
              have HE := Lib.hid (show E = exGo l (l.length + 1) (S.i + 1) 0 from hE.symm)
              have hA' : ((S.i : Int) + 1) < l.length := by omega
              have x1 : decide (((by8 l (S.i + 1) : Nat) : Int) < 48) = false := by rw [decide_eq_false_iff_not]; omega
              have x2 : decide ((57 : Int) < ((by8 l (S.i + 1) : Nat) : Int)) = false := by rw [decide_eq_false_iff_not]; omega
              clear hof hat hE
              go_wp2_with (first | (go_at_call 104; refine (LWm _).mono ?_; rintro e w1 ⟨rfl, rfl⟩))
              go_loopw [7, 9, 20] (fun i us e wr => ∃ (k x f : Nat), i = .int .i64 (k : Int) ∧ us = .bool false ∧ e = .int .i64 (x : Int) ∧ (S.i + 1) ≤ k ∧ k ≤ l.length ∧ l.length < k + f ∧ x < 100010 ∧ wr = w ∧ Hid (E = exGo l f k x)) (fun i _ _ _ => l.length + 1 - (intOf i).toNat)
              case atStart => exact ⟨(S.i + 1), 0, l.length + 1, by push_cast; rfl, rfl, rfl, by omega, by omega, by omega, by omega, (by first | rfl | trivial), HE⟩
              case round =>
                obtain ⟨k, x, f, rfl, rfl, rfl, k1, k2, k3, x3, rfl, HX⟩ := hrel
                obtain ⟨f, rfl⟩ : ∃ g, f = g + 1 := ⟨f - 1, by omega⟩
                clear HE x1 x2
                by_cases hk : k < l.length
                · have hk' : (k : Int) < l.length := by omega
                  have hd := hdk.out k k1 hk
                  have y1 : decide ((48 : Int) ≤ ((by8 l k : Nat) : Int)) = true := by rw [decide_eq_true_eq]; omega
                  have y2 : decide (((by8 l k : Nat) : Int) ≤ 57) = true := by rw [decide_eq_true_eq]; omega
                  have y3 : ((by8 l k : Int) == 95) = false := by rw [beq_eq_false_iff_ne]; omega
                  have wk : IntKind.i64.wrap ((k : Int) + 1) = (k : Int) + 1 := IntWalk.i64_in _ (by omega)
                  clear hdA hU
                  by_cases hx4 : x < 10000
                  · have hx4' : (x : Int) < 10000 := by omega
                    have HN := Lib.hid (show E = exGo l f (k + 1) (x * 10 + (by8 l k - 48)) by rw [HX.out, exGo, if_pos hk, if_pos hx4])
                    have hv := Lib.hid (show (x : Int) * 10 + (by8 l k : Int) - 48 = ((x * 10 + (by8 l k - 48) : Nat) : Int) by omega)
                    clear HX
                    go_wp2
                    go_roundw
                    case rel => exact ⟨k + 1, x * 10 + (by8 l k - 48), f, by go_num, rfl, by rw [← hv.out], by omega, by omega, by omega, by omega, (by first | rfl | trivial), HN⟩
                    case measure => simp [intOf]; omega
                  · have hx4' : ¬ (x : Int) < 10000 := by omega
                    have HN := Lib.hid (show E = exGo l f (k + 1) x by rw [HX.out, exGo, if_pos hk, if_neg hx4])
                    clear HX
                    go_wp2
                    go_roundw
                    case rel => exact ⟨k + 1, x, f, by go_num, rfl, rfl, by omega, by omega, by omega, by omega, (by first | rfl | trivial), HN⟩
                    case measure => simp [intOf]; omega
                · have hk' : ¬ (k : Int) < l.length := by omega
                  obtain rfl : k = l.length := by omega
                  have HN : E = x := by rw [HX.out, exGo, if_neg hk]
                  subst HN
                  have t1 : IntKind.i64.wrap (D * 4 + (E : Int)) = D * 4 + (E : Int) := IntWalk.i64_in _ (by omega)
                  have t2 : IntKind.i64.wrap (D * 4 + (E : Int) - (S.nm : Int) * 4) = D * 4 + (E : Int) - (S.nm : Int) * 4 := IntWalk.i64_in _ (by omega)
                  clear HX hdk hdA hU
                  by_cases hm : S.mant = 0
                  · have d3 : ((S.mant : Int) != 0) = false := by rw [hm]; rfl
                    have HP4 := Lib.hid (show pow l true F0 = 0 by rw [HP3.out, if_pos hm])
                    clear hm HP3
                    go_wp2
                    refine bodyPost_ret (v := .tuple #[.int .u64 (S.mant : Int), .int .i64 0, .bool ng, .bool S.trunc, .bool true, .int .i64 (l.length : Int), .bool true]) (by simp [results, Tryz.results88, go_sem]) rfl ?_
                    rw [HR.out, HP4.out]
                    exact ⟨rfl, rfl⟩
                  · have d3 : ((S.mant : Int) != 0) = true := by rw [bne_iff_ne]; omega
                    have HP4 := Lib.hid (show pow l true F0 = D * 4 + (E : Int) - (S.nm : Int) * 4 by rw [HP3.out, if_neg hm])
                    clear hm HP3
                    go_wp2
                    refine bodyPost_ret (v := .tuple #[.int .u64 (S.mant : Int), .int .i64 (D * 4 + (E : Int) - (S.nm : Int) * 4), .bool ng, .bool S.trunc, .bool true, .int .i64 (l.length : Int), .bool true]) (by simp [results, Tryz.results88, go_sem]) rfl ?_
                    rw [HR.out, HP4.out]
                    exact ⟨rfl, rfl⟩
end Rf
end Go.Proofs.YtepmneongpbglaaGreatDoor
namespace Go.Proofs.YtepmneongpbglaaGreatDoor
open Go Go.RowKit
set_option linter.all false
namespace Rf
def up : Nat → Nat → Int → Nat × Int
  | 0, m, e => (m, e)
  | f + 1, m, e => if m ≠ 0 ∧ m / 18014398509481984 = 0 then up f (m * 2) (e - 1) else (m, e)
def dn : Nat → Nat → Int → Nat × Int
  | 0, m, e => (m, e)
  | f + 1, m, e => if m / 36028797018963968 ≠ 0 then dn f (m / 2 ||| m % 2) (e + 1) else (m, e)
theorem up_bd : ∀ (f m : Nat) (e : Int), e - f ≤ (up f m e).2 ∧ (up f m e).2 ≤ e
  | 0, m, e => by simp [up]
  | f + 1, m, e => by
    rw [up]
    split
    · have := up_bd f (m * 2) (e - 1); omega
    · simp only; omega
def bigN : Nat := 36028797018963968
/-- the library's variable of 64 bit numbers -/
structure F64 (w : World) : Prop where
  c0 : w.cell? ⟨9, 0, none⟩ = some (.int .u64 52)
  c1 : w.cell? ⟨9, 1, none⟩ = some (.int .u64 11)
  c2 : w.cell? ⟨9, 2, none⟩ = some (.int .i64 (-1023))
  g64 : ∃ cs t, w.heap[9]? = some (.cells cs t (0, 0))
  g32 : ∃ cs t, w.heap[7]? = some (.cells cs t (0, 0))
theorem F64.pur {w w' : World} (h : F64 w) (hp : Pur w w') : F64 w' := by
  have k : ∀ {a : Addr} {v : Value}, w.cell? a = some v → w'.cell? a = some v := fun h => (hp.cell (World.block_lt_of_cell? w _ h)).trans h
  obtain ⟨a, b, h1⟩ := h.g64
  obtain ⟨c, d, h2⟩ := h.g32
  exact ⟨k h.c0, k h.c1, k h.c2, ⟨a, b, bk_pur h1 hp⟩, ⟨c, d, bk_pur h2 hp⟩⟩
theorem fi_info : (Tryz.prog.info? 119).map (·.size) = some 3 := by kernel_rfl
set_option maxRecDepth 100000 in
set_option maxHeartbeats 32000000 in
theorem hex_any (s : List UInt8) (m : Nat) (p : Int) (w : World) (hF : F64 w) (hm : m < 18446744073709551616) (hp0 : 0 ≤ p) (hp : p ≤ 900) (hU4 : (up 64 m (p + 52)).1 % 4 = 0) (hU5 : 18014398509481984 ≤ (up 64 m (p + 52)).1) (hU6 : (up 64 m (p + 52)).1 < 36028797018963968) :
    Calls Tryz.prog 89 #[.string ⟨s.toArray⟩, .pointer (some ⟨9, 0, none⟩), .int .u64 (m : Int), .int .i64 p, .bool false, .bool false] w fun e w' => e = .returned (.tuple #[.float .f64 ((up 64 m (p + 52)).1 / 4 % 4503599627370496 + ((up 64 m (p + 52)).2 + 1025).toNat * 4503599627370496), .nilIface]) ∧ Pur w w' := by
  have c0 := fun x : PW w => (hF.pur x.pur).c0
  have c1 := fun x : PW w => (hF.pur x.pur).c1
  have c2 := fun x : PW w => (hF.pur x.pur).c2
  have h6 := @run_callFunc_extern Tryz.prog 97 _ Go.Extern.MathFloatBits.float64frombits Tryz.func97 (by kernel_rfl) (by kernel_rfl) (by kernel_rfl) (by kernel_rfl)
  have fb : ∀ (n : Int) (w : World), (Go.Extern.MathFloatBits.float64frombits #[.int .u64 n]).run Tryz.prog w = .ok (.float .f64 n.toNat) w := fun n w => rfl
  obtain ⟨jf, hfi, hfz⟩ := Option.map_eq_some_iff.1 fi_info
  clear hm
  obtain ⟨U, hU⟩ : ∃ U, up 64 m (p + 52) = U := ⟨_, rfl⟩
  have HU := Lib.hid (show U = up 64 m (p + 52) from hU.symm)
  have hUe := up_bd 64 m (p + 52)
  have HR := Lib.hid (show (up 64 m (p + 52)).1 / 4 % 4503599627370496 + ((up 64 m (p + 52)).2 + 1025).toNat * 4503599627370496 = U.1 / 4 % 4503599627370496 + (U.2 + 1025).toNat * 4503599627370496 by rw [hU])
  rw [hU] at hU4 hU5 hU6 hUe
  rw [HR.out]
  clear hU
  go_enter Tryz.func89, Tryz.ntmps89
  go_wp2
  refine wp_region_pur (by kernel_rfl) (by kernel_rfl) ?_
  repeat (go_big_quiet_step (fail))
  refine wpQuiet_nil ?_
  intro w1 h1
  have z0 := (hF.pur h1).c0
  have z1 := (hF.pur h1).c1
  have z2 := (hF.pur h1).c2
  clear c0 c1 c2
  have wp52 : IntKind.i64.wrap (p + 52) = p + 52 := IntWalk.i64_in _ (by omega)
  go_upto_block 0 with (fail)
  go_cut [2, 3] from 42 to 57 (fun a b wx => a = .int .u64 (U.1 : Int) ∧ b = .int .i64 U.2 ∧ w1 = wx)
  case first =>
    clear z1 z2 hU4 hU5 hU6 HR hUe
    have HM := Lib.hid (show m = 0 ∨ 18014398509481984 ≤ m * 2 ^ 64 by omega)
    go_wp2_with fail
    go_loopw [2, 3] (fun a b wr => ∃ (k f : Nat) (e : Int), a = .int .u64 (k : Int) ∧ b = .int .i64 e ∧ f ≤ 64 ∧ p + f - 12 ≤ e ∧ e ≤ p + 52 ∧ Hid (U = up f k e) ∧ Hid (k = 0 ∨ 18014398509481984 ≤ k * 2 ^ f) ∧ wr = w1) (fun a _ _ => bigN - (intOf a).toNat)
    case atStart => exact ⟨m, 64, p + 52, rfl, rfl, by omega, by omega, by omega, HU, HM, (by first | rfl | trivial)⟩
    case round =>
      obtain ⟨k, f, e, rfl, rfl, f1, e1, e2, H, HK, rfl⟩ := hrel
      clear HU HM
      by_cases hk : k = 0
      · have d1 : ((k : Int) != 0) = false := by rw [hk]; rfl
        have HN := Lib.hid (show U = (k, e) by
          rw [H.out]
          cases f with
          | zero => rfl
          | succ f => rw [up, if_neg (fun h => h.1 hk)])
        clear hk H HK
        go_wp2
        go_meet
        rw [HN.out]
        exact ⟨rfl, rfl, rfl⟩
      · have d1 : ((k : Int) != 0) = true := by rw [bne_iff_ne]; omega
        by_cases hq : k / 18014398509481984 = 0
        · obtain ⟨f, rfl⟩ : ∃ g, f = g + 1 := by
            cases f with
            | zero => rcases HK.out with h | h <;> omega
            | succ f => exact ⟨f, rfl⟩
          have d2 : ((k : Int) / 18014398509481984 == 0) = true := by rw [beq_iff_eq]; omega
          have w2 : IntKind.u64.wrap ((k : Int) * 2) = (k : Int) * 2 := IntWalk.u64_in _ (by omega)
          have w3 : IntKind.i64.wrap (e - 1) = e - 1 := IntWalk.i64_in _ (by omega)
          have HN := Lib.hid (show U = up f (k * 2) (e - 1) by rw [H.out, up, if_pos ⟨hk, hq⟩])
          have HK2 := Lib.hid (show k * 2 = 0 ∨ 18014398509481984 ≤ k * 2 * 2 ^ f by
            rcases HK.out with h | h
            · exact absurd h hk
            · right; rw [Nat.pow_succ] at h; rw [Nat.mul_assoc, Nat.mul_comm 2]; exact h)
          have hd := Lib.hid (show bigN - k * 2 < bigN - k by unfold bigN; omega)
          clear H HK hk hq
          go_wp2
          go_roundw
          case rel => exact ⟨k * 2, f, e - 1, by push_cast; rfl, rfl, by omega, by omega, by omega, HN, HK2, (by first | rfl | trivial)⟩
          case measure => exact hd.out
        · have d2 : ((k : Int) / 18014398509481984 == 0) = false := by rw [beq_eq_false_iff_ne]; omega
          have HN := Lib.hid (show U = (k, e) by
            rw [H.out]
            cases f with
            | zero => rfl
            | succ f => rw [up, if_neg (fun h => hq h.2)])
          clear hk H HK hq
          go_wp2
          go_meet
          rw [HN.out]
          exact ⟨rfl, rfl, rfl⟩
  case rest =>
    obtain ⟨rfl, rfl, rfl⟩ := hcut
    clear HU
    obtain ⟨hE1, hE2⟩ := hUe
    obtain ⟨k, hk⟩ : ∃ k, U.1 = k := ⟨_, rfl⟩
    obtain ⟨e, he⟩ : ∃ e, U.2 = e := ⟨_, rfl⟩
    rw [hk] at hU4 hU5 hU6 HR ⊢
    rw [he] at hE1 hE2 HR ⊢
    have HK := Lib.hid hk
    have HE := Lib.hid he
    clear hk he
    obtain ⟨Q, hQ⟩ : ∃ Q, k / 4 = Q := ⟨_, rfl⟩
    have hq4 : (k : Int) / 4 = (Q : Int) := by omega
    have hQ1 : 4503599627370496 ≤ Q := by omega
    have hQ2 : Q < 9007199254740992 := by omega
    have d1 : ((k : Int) / 36028797018963968 != 0) = false := by rw [bne_eq_false_iff_eq]; omega
    have d2 : decide (e < -1024) = false := by rw [decide_eq_false_iff_not]; omega
    have d2' : decide ((1 : Int) < (k : Int)) = true := by rw [decide_eq_true_eq]; omega
    have b1 : bits .and .u64 (k : Int) 3 = 0 := by
      have := u64_and_nat k 3 (by omega) (by decide)
      rw [show ((3 : Nat) : Int) = 3 from rfl] at this
      rw [this, show (k &&& 3) = k % 4 from Nat.and_two_pow_sub_one_eq_mod k 2, hU4]
      rfl
    obtain ⟨x, hx⟩ : ∃ x, Q % 2 = x := ⟨_, rfl⟩
    have b2 : bits .and .u64 (Q : Int) 1 = (x : Int) := by
      have := u64_and_nat Q 1 (by omega) (by decide)
      rw [show ((1 : Nat) : Int) = 1 from rfl] at this
      rw [this, show (Q &&& 1) = Q % 2 from Nat.and_two_pow_sub_one_eq_mod Q 1, hx]
    have b3 : bits .or .u64 0 (x : Int) = (x : Int) := by
      have := u64_or_nat 0 x (by decide) (by omega)
      rw [show ((0 : Nat) : Int) = 0 from rfl] at this
      rw [this, Nat.zero_or]
    have d3 : ((x : Int) == 3) = false := by rw [beq_eq_false_iff_ne]; omega
    have d4 : ((Q : Int) / 4503599627370496 == 0) = false := by rw [beq_eq_false_iff_ne]; omega
    have w4 : IntKind.i64.wrap (e + 2) = e + 2 := IntWalk.i64_in _ (by omega)
    have d5 : decide ((1023 : Int) < e + 2) = false := by rw [decide_eq_false_iff_not]; omega
    obtain ⟨y, hy⟩ : ∃ y, Q % 4503599627370496 = y := ⟨_, rfl⟩
    have b4 : bits .and .u64 (Q : Int) 4503599627370495 = (y : Int) := by
      have := u64_and_nat Q 4503599627370495 (by omega) (by decide)
      rw [show ((4503599627370495 : Nat) : Int) = 4503599627370495 from rfl] at this
      rw [this, show (Q &&& 4503599627370495) = Q % 4503599627370496 from Nat.and_two_pow_sub_one_eq_mod Q 52, hy]
    have w6 : IntKind.i64.wrap (e + 2 + 1023) = e + 2 + 1023 := IntWalk.i64_in _ (by omega)
    obtain ⟨z, hz⟩ := Int.eq_ofNat_of_zero_le (show 0 ≤ e + 1025 by omega)
    have hz2 : z < 2047 := by omega
    have hzz : e + 2 + 1023 = (z : Int) := by omega
    have w7 : IntKind.i64.wrap (e + 2 + 1023) = (z : Int) := by rw [w6, hzz]
    have b5 : bits .and .i64 (z : Int) 2047 = (z : Int) := by
      have := bits_mask .i64 63 (by decide) wraps_i64 11 (by decide) (z : Int) (by omega) (by omega)
      rw [show ((2 : Int) ^ 11 - 1) = 2047 from rfl] at this
      rw [this]; omega
    have w8 : IntKind.u64.wrap ((z : Int) * 4503599627370496) = (z : Int) * 4503599627370496 := IntWalk.u64_in _ (by omega)
    have hy2 : y < 4503599627370496 := by rw [← hy]; exact Nat.mod_lt _ (by decide)
    have b6 : bits .or .u64 (y : Int) ((z : Int) * 4503599627370496) = ((y + z * 4503599627370496 : Nat) : Int) := by
      have := u64_or_nat y (z * 4503599627370496) (by omega) (by omega)
      rw [show (((z * 4503599627370496 : Nat)) : Int) = (z : Int) * 4503599627370496 from Int.natCast_mul z 4503599627370496] at this
      rw [this, Nat.or_comm, show z * 4503599627370496 = z <<< 52 by rw [Nat.shiftLeft_eq], ← Nat.shiftLeft_add_eq_or_of_lt (by omega), Nat.add_comm]
    have HZ := Lib.hid hzz
    clear hzz w6 hy2
    have HQ := Lib.hid hQ
    have HY := Lib.hid hy
    clear hQ hx hU4 hU5 hU6 hy
    have W1 := Lib.hid h1
    go_wp2
    go_loopw [2, 3] (fun a b wr => a = .int .u64 (k : Int) ∧ b = .int .i64 e ∧ Hid (wr = w1)) (fun _ _ _ => 0)
    case atStart => exact ⟨rfl, rfl, Lib.hid rfl⟩
    case round =>
      obtain ⟨rfl, rfl, hw⟩ := hrel
      have hw := hw.out
      subst hw
      go_wp2
      go_loopw [2, 3] (fun a b wr2 => a = .int .u64 (k : Int) ∧ b = .int .i64 e ∧ Hid (wr2 = wr)) (fun _ _ _ => 0)
      case atStart => exact ⟨rfl, rfl, Lib.hid rfl⟩
      case round =>
        obtain ⟨rfl, rfl, hw⟩ := hrel
        have hw := hw.out
        subst hw
        go_wp2
        have c0 := fun x : PW wr => (hF.pur (W1.out.trans x.pur)).c0
        have c1 := fun x : PW wr => (hF.pur (W1.out.trans x.pur)).c1
        have c2 := fun x : PW wr => (hF.pur (W1.out.trans x.pur)).c2
        refine wp_region_pur (by kernel_rfl) (by kernel_rfl) ?_
        repeat (go_big_quiet_step (fail))
        refine wpQuiet_nil ?_
        intro w3 h3
        have hF3 := hF.pur (W1.out.trans h3)
        obtain ⟨ca, ta, hca⟩ := hF3.g64
        obtain ⟨cb, tb, hcb⟩ := hF3.g32
        have PE : (binOp BinOp.eql 117 (.pointer (some ⟨9, 0, none⟩)) (.pointer (some ⟨7, 0, none⟩))).run Tryz.prog w3 = .ok (.bool false) w3 :=
          run_eql_ptr_other w3 Tryz.underlying117 hfi (by rw [hfz]; decide) (by decide) hca hcb
        clear hca hcb
        go_wp2
        go_ret2
        refine ⟨?_, W1.out.trans h3⟩
        show Ending.returned (.tuple #[.float .f64 (y + z * 4503599627370496), .nilIface]) = _
        rw [HK.out, HE.out, HQ.out, HY.out, show (e + 1025).toNat = z by have := HZ.out; omega]
end Rf
end Go.Proofs.YtepmneongpbglaaGreatDoor
namespace Go.Proofs.YtepmneongpbglaaGreatDoor
open Go Go.RowKit
set_option linter.all false
namespace Rf
set_option maxRecDepth 100000 in
set_option maxHeartbeats 4000000 in
theorem special_no (l : List UInt8) (w : World) (h0 : 0 < l.length) (h1 : by8 l 0 ≠ 43) (h2 : by8 l 0 ≠ 45) (h3 : by8 l 0 ≠ 105) (h4 : by8 l 0 ≠ 73) (h5 : by8 l 0 ≠ 110) (h6 : by8 l 0 ≠ 78) :
    Calls Tryz.prog 87 #[.string ⟨l.toArray⟩] w fun e w' => e = .returned (.tuple #[.float .f64 0, .int .i64 0, .bool false]) ∧ w = w' := by
  have h0' : (0 : Int) < l.length := by omega
  have hne : ¬ l = [] := by intro e; rw [e] at h0; simp at h0
  have d1 : ((by8 l 0 : Int) == 43) = false := by rw [beq_eq_false_iff_ne]; omega
  have d2 : ((by8 l 0 : Int) == 45) = false := by rw [beq_eq_false_iff_ne]; omega
  have d3 : ((by8 l 0 : Int) == 105) = false := by rw [beq_eq_false_iff_ne]; omega
  have d4 : ((by8 l 0 : Int) == 73) = false := by rw [beq_eq_false_iff_ne]; omega
  have d5 : ((by8 l 0 : Int) == 110) = false := by rw [beq_eq_false_iff_ne]; omega
  have d6 : ((by8 l 0 : Int) == 78) = false := by rw [beq_eq_false_iff_ne]; omega
  clear h1 h2 h3 h4 h5 h6
  go_enter Tryz.func87, Tryz.ntmps87
  go_wp2
  go_ret3
  exact ⟨rfl, rfl⟩
/-- what readFloat says of a number written by sixteens -/
def RF (l : List UInt8) (m : Nat) (p : Int) : Prop :=
  ∀ w, Calls Tryz.prog 88 #[.string ⟨l.toArray⟩] w fun e w' => e = .returned (.tuple #[.int .u64 (m : Int), .int .i64 p, .bool false, .bool false, .bool true, .int .i64 (l.length : Int), .bool true]) ∧ w = w'
/-- the bits of m * 2^p -/
def bitsOf (m : Nat) (p : Int) : Nat := (up 64 m (p + 52)).1 / 4 % 4503599627370496 + ((up 64 m (p + 52)).2 + 1025).toNat * 4503599627370496
structure Small (m : Nat) (p : Int) : Prop where
  sm : m < 18446744073709551616
  q0 : 0 ≤ p
  q1 : p ≤ 900
  u4 : (up 64 m (p + 52)).1 % 4 = 0
  u5 : 18014398509481984 ≤ (up 64 m (p + 52)).1
  u6 : (up 64 m (p + 52)).1 < 36028797018963968
set_option maxRecDepth 100000 in
set_option maxHeartbeats 4000000 in
theorem atof_hex {l : List UInt8} {m : Nat} {p : Int} {w : World} (hR : RF l m p) (hF : F64 w) (hs : Small m p) (hl : l.length ≤ 1000000) (h0 : 0 < l.length) (h48 : by8 l 0 = 48) :
    Calls Tryz.prog 83 #[.string ⟨l.toArray⟩] w fun e w' => e = .returned (.tuple #[.float .f64 (bitsOf m p), .int .i64 (l.length : Int), .nilIface]) ∧ Pur w w' := by
  have SP := fun w => special_no l w h0 (by omega) (by omega) (by omega) (by omega) (by omega) (by omega)
  have HX := fun s w (h : F64 w) => hex_any s m p w h hs.sm hs.q0 hs.q1 hs.u4 hs.u5 hs.u6
  unfold RF at hR
  have HB := Lib.hid (show bitsOf m p = (up 64 m (p + 52)).1 / 4 % 4503599627370496 + ((up 64 m (p + 52)).2 + 1025).toNat * 4503599627370496 from rfl)
  generalize bitsOf m p = B at *
  have HX2 : ∀ s w, F64 w → Calls Tryz.prog 89 #[.string ⟨List.toArray s⟩, .pointer (some ⟨9, 0, none⟩), .int .u64 (m : Int), .int .i64 p, .bool false, .bool false] w fun e w' => e = .returned (.tuple #[.float .f64 B, .nilIface]) ∧ Pur w w' := fun s w h => by
    rw [HB.out]; exact HX s w h
  clear HX HB hs h48
  go_enter Tryz.func83, Tryz.ntmps83
  go_wp2_with fail
  refine (SP _).mono ?_
  rintro e w1 ⟨rfl, rfl⟩
  go_wp2_with fail
  refine (hR _).mono ?_
  rintro e w1 ⟨rfl, rfl⟩
  go_wp2_with fail
  refine (HX2 _ _ hF).mono ?_
  rintro e w1 ⟨rfl, p1⟩
  go_wp2
  go_ret3
  exact ⟨rfl, p1⟩
set_option maxRecDepth 100000 in
set_option maxHeartbeats 4000000 in
theorem parse_hex {l : List UInt8} {m : Nat} {p : Int} {w : World} (hR : RF l m p) (hF : F64 w) (hs : Small m p) (hl : l.length ≤ 1000000) (h0 : 0 < l.length) (h48 : by8 l 0 = 48) :
    Calls Tryz.prog 58 #[.string ⟨l.toArray⟩, .int .i64 64] w fun e w' => e = .returned (.tuple #[.float .f64 (bitsOf m p), .nilIface]) ∧ Pur w w' := by
  have A1 := atof_hex hR hF hs hl h0 h48
  have P1 : Calls Tryz.prog 77 #[.string ⟨l.toArray⟩, .int .i64 64] w fun e w' => e = .returned (.tuple #[.float .f64 (bitsOf m p), .int .i64 (l.length : Int), .nilIface]) ∧ Pur w w' := by
    clear hR hF hs h48
    generalize bitsOf m p = B at *
    go_enter Tryz.func77, Tryz.ntmps77
    go_wp2_with fail
    refine A1.mono ?_
    rintro e w1 ⟨rfl, p1⟩
    go_wp2
    go_ret3
    exact ⟨rfl, p1⟩
  have I1 : Calls Tryz.prog 72 #[.string ⟨l.toArray⟩, .int .i64 64] w fun e w' => e = .returned (.tuple #[.float .f64 (bitsOf m p), .nilIface]) ∧ Pur w w' := by
    clear hR hF hs h48 A1
    generalize bitsOf m p = B at *
    go_enter Tryz.func72, Tryz.ntmps72
    go_wp2_with fail
    refine P1.mono ?_
    rintro e w1 ⟨rfl, p1⟩
    go_wp2
    go_ret2
    exact ⟨rfl, p1⟩
  clear hR hF hs h48 A1 P1
  generalize bitsOf m p = B at *
  go_enter Tryz.func58, Tryz.ntmps58
  go_wp2_with fail
  refine I1.mono ?_
  rintro e w1 ⟨rfl, p1⟩
  go_wp2
  go_ret2
  exact ⟨rfl, p1⟩
/-- "0x1Fp0" -/
def l1F : List UInt8 := [48, 120, 49, 70, 112, 48]
theorem by1F : ∀ i, by8 l1F i ≠ 95 := by
  intro i
  rcases Nat.lt_or_ge i 6 with h | h
  · revert i; decide
  · have e : by8 l1F i = 0 := by
      unfold by8
      rw [List.getD_eq_getElem?_getD, List.getElem?_eq_none (show l1F.length ≤ i from h)]
      rfl
    rw [e]
    decide
theorem rf_1F : RF l1F 31 0 := by
  intro w
  have h := readFloat_hex l1F w (by decide) (by decide) by1F ?_ (by decide)
  · refine h.mono ?_
    rintro e w' h
    unfold RfPost at h
    exact h
  · unfold Whole
    refine ⟨by decide, .inr ⟨by decide, by decide, by decide, ?_⟩⟩
    intro k h1 h2
    have : k = 5 := by
      have a : exAt l1F (digs l1F (hexAt l1F (sgn l1F)) (from0 l1F)).i = 5 := by decide
      have b : l1F.length = 6 := rfl
      omega
    subst this
    decide
theorem small_1F : Small 31 0 := ⟨by decide, by decide, by decide, by decide, by decide, by decide⟩
theorem bits_1F : bitsOf 31 0 = 4629418941960159232 := by decide
end Rf
end Go.Proofs.YtepmneongpbglaaGreatDoor
