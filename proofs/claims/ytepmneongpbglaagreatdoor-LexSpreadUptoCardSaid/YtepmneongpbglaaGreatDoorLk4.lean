/- Layer 5: what says nothing is gone over. -/
import Derived.Test.YtepmneongpbglaaGreatDoorLk3
import Derived.Test.YtepmneongpbglaaGreatDoorTail
import Derived.StillTailTactics
import Derived.Deep.CutRange
namespace Go.Proofs.YtepmneongpbglaaGreatDoor
open Go Go.RowKit
set_option linter.all false
namespace Lx
set_option maxRecDepth 100000 in
set_option maxHeartbeats 32000000 in
theorem blanks_any {w0 w : World} {p i : Nat} {l : List UInt8} {ln : Bool} {v : Value} (h : Lb w p l i ln v) (B : LB w0 p w) (hi : i ≤ l.length) (hl : l.length ≤ 1000000) :
    Calls Tryz.prog 23 #[.pointer (some ⟨p, 0, none⟩)] w fun e w' => BlkPost w p l v (skipGo l (l.length + 1) i ln) e w' := by
  go_enter Tryz.func23, Tryz.ntmps23
  go_wp2
  go_loopw [19] (fun _ wr => ∃ (j f : Nat) (b : Bool), j ≤ l.length ∧ l.length < j + f ∧ Lb wr p l j b v ∧ Chg [p] w wr ∧ Hid (skipGo l (l.length + 1) i ln = skipGo l f j b)) (fun _ wr => l.length + 1 - natAt wr ⟨p, 1, none⟩)
  case atStart => exact ⟨i, l.length + 1, ln, hi, by omega, h, Chg.refl _ _, Lib.hid rfl⟩
  case round =>
    obtain ⟨j, f, b, j2, jf, k, G, H⟩ := hrel
    obtain ⟨f, rfl⟩ : ∃ g, f = g + 1 := ⟨f - 1, by omega⟩
    have q0 := k.q0
    have q1 := k.q1
    have e3 := k.nat
    have B1 := B.chg G
    by_cases hj : j < l.length
    · have hj' : (j : Int) < l.length := by omega
      have NX := fun (w' : World) (hp : Pur wr w') => next_any l j w' (B1.purd hp).w
      have hgo : skipGo l (f + 1) j b = _ := skipGo.eq_2 l j b f
      rw [if_pos hj] at hgo
      by_cases hn : (chr l j).2 = 0
      · rw [if_pos hn] at hgo
        have HS := Lib.hid (H.out.trans hgo)
        rw [hn] at NX
        clear H hgo hn
        go_wp2
        refine wp_region_pur (by kernel_rfl) (by kernel_rfl) ?_
        repeat (go_big_quiet_step (fail))
        refine wpQuiet_nil ?_
        intro wq hq
        have k2 := k.pur hq
        have q0' := k2.q0
        have q1' := k2.q1
        have NX' := fun x : PW wq => NX x.to (hq.trans x.pur)
        clear q0 q1 NX
        go_wp2
        refine wp_region_pur (by kernel_rfl) (by kernel_rfl) ?_
        repeat (go_big_quiet_step (((go_at_call 29; with_reducible exact quiet_pur (NX' _)))))
        refine wpQuiet_nil ?_
        intro wz hz
        have k3 := k2.pur hz
        have c1 := k3.c1
        clear q0' q1' NX'
        go_wp2
        go_ret
        rw [HS.out]
        exact ⟨rfl, ⟨_, _, k3⟩, (G.pur hq).pur hz⟩
      · rw [if_neg hn] at hgo
        have hn0 : 0 < (chr l j).2 := by omega
        have hce := chr_end hn
        have hlg : ∀ j2, lineGo l (l.length + 1) j = .ok j2 → endsC (chr l j).1 = false → j < j2 := fun j2 h1 h2 => by
          rw [lineGo, if_pos hj, if_neg hn, if_neg (by rw [h2]; simp)] at h1
          have := lineGo_le l _ _ _ h1 hce
          omega
        have wj : IntKind.i64.wrap ((j : Int) + ((chr l j).2 : Int)) = (j : Int) + ((chr l j).2 : Int) := IntWalk.i64_in _ (by omega)
        generalize (chr l j).1 = c at *
        generalize (chr l j).2 = n at *
        go_wp2
        refine wp_region_pur (by kernel_rfl) (by kernel_rfl) ?_
        repeat (go_big_quiet_step (fail))
        refine wpQuiet_nil ?_
        intro wq hq
        have k2 := k.pur hq
        have q0' := k2.q0
        have q1' := k2.q1
        have NX' := fun x : PW wq => NX x.to (hq.trans x.pur)
        clear q0 q1 NX
        go_wp2
        refine wp_region_pur (by kernel_rfl) (by kernel_rfl) ?_
        repeat (go_big_quiet_step (((go_at_call 29; with_reducible exact quiet_pur (NX' _)))))
        refine wpQuiet_nil ?_
        intro wz hz
        have k3 := k2.pur hz
        have G3 := (G.pur hq).pur hz
        have B3 := B.chg G3
        clear q0' q1' NX' k2 hq
        rcases hE : endsC c with _ | _
        · rw [hE, if_neg (by simp)] at hgo
          obtain ⟨d1, d2, d3, d4⟩ := ends_no hE
          rcases hB : blankC c with _ | _
          · rw [hB, if_neg (by simp)] at hgo
            obtain ⟨b1, b2, b3, b4, b5, b6⟩ := blank_no hB
            have hlg' := fun j2 (g : lineGo l (l.length + 1) j = .ok j2) => hlg j2 g hE
            clear hlg hE hB hn
            have RS := fun (w' : World) (hp : Pur wz w') => rest_any (k3.pur hp) j2
            rcases h1 : ([47, 47] : List UInt8).isPrefixOf (l.drop j) with _ | _
            · rw [h1, if_neg (by simp)] at hgo
              rcases h2 : ([47, 42] : List UInt8).isPrefixOf (l.drop j) with _ | _
              · -- no more
                as_aux_lemma =>
                  rw [h2, if_neg (by simp)] at hgo
                  have HS := Lib.hid (H.out.trans hgo)
                  have P1 := fun w' => pref_any (l.drop j) [47, 47] w'
                  have P2 := fun w' => pref_any (l.drop j) [47, 42] w'
                  rw [h1] at P1
                  rw [h2] at P2
                  clear H hgo hlg' h1 h2
                  go_wp2_with fail
                  refine (RS _ (Pur.refl _)).mono ?_
                  rintro e w5 ⟨rfl, p5⟩
                  go_wp2_with fail
                  refine (P1 _).mono ?_
                  rintro e w6 ⟨rfl, rfl⟩
                  go_wp2_with fail
                  refine (RS _ p5).mono ?_
                  rintro e w7 ⟨rfl, p7⟩
                  go_wp2_with fail
                  refine (P2 _).mono ?_
                  rintro e w8 ⟨rfl, rfl⟩
                  go_wp2
                  go_ret
                  rw [HS.out]
                  exact ⟨rfl, k3.pur (p5.trans p7), G3.pur (p5.trans p7)⟩
              · -- a remark of the second sort
                as_aux_lemma =>
                  rw [h2, if_pos rfl] at hgo
                  have P1 := fun w' => pref_any (l.drop j) [47, 47] w'
                  have P2 := fun w' => pref_any (l.drop j) [47, 42] w'
                  rw [h1] at P1
                  rw [h2] at P2
                  have hj2 : j + 2 ≤ l.length := by
                    have := (List.isPrefixOf_iff_prefix.1 h2).length_le
                    rw [List.length_drop] at this
                    simp only [List.length_cons, List.length_nil] at this
                    omega
                  clear hlg' h1 h2
                  go_wp2_with fail
                  refine (RS _ (Pur.refl _)).mono ?_
                  rintro e w5 ⟨rfl, p5⟩
                  go_wp2_with fail
                  refine (P1 _).mono ?_
                  rintro e w6 ⟨rfl, rfl⟩
                  go_wp2_with fail
                  refine (RS _ p5).mono ?_
                  rintro e w7 ⟨rfl, p7⟩
                  go_wp2_with fail
                  refine (P2 _).mono ?_
                  rintro e w8 ⟨rfl, rfl⟩
                  have k5 := k3.pur (p5.trans p7)
                  have G5 := G3.pur (p5.trans p7)
                  have B5 := B.chg G5
                  have q0 := k5.q0
                  have q1 := k5.q1
                  have w2' : IntKind.i64.wrap ((j : Int) + 2) = (j : Int) + 2 := IntWalk.i64_in _ (by omega)
                  have hj2' : (j : Int) + 2 ≤ l.length := by omega
                  have i2 : ((j : Int) + 2).toNat = j + 2 := by omega
                  have IX : ∀ x : PW w7, Calls Tryz.prog 26 #[.string ⟨(sub l (j + 2) l.length).toArray⟩, .string ⟨#[42, 47]⟩] x.to fun e w' => e = .returned (.int .i64 (idxI (idx [42, 47] (l.drop (j + 2))))) ∧ x.to = w' := fun x => by
                    have := index_any (sub l (j + 2) l.length) [42, 47] x.to (B5.purd x.pur).w (by rw [length_sub]; omega)
                    rwa [show sub l (j + 2) l.length = l.drop (j + 2) by unfold sub; rw [List.take_of_length_le (by rw [List.length_drop]; omega)]] at this ⊢
                  have hidx : ∀ k, idx [42, 47] (l.drop (j + 2)) = some k → j + 2 + k + 2 ≤ l.length := fun k hk => by
                    have h1 := (idx_lt _ _ hk).2.1
                    rw [List.length_drop] at h1
                    simp only [List.length_cons, List.length_nil] at h1
                    omega
                  clear RS P1 P2 k3 G3 B3
                  cases hx : idx [42, 47] (l.drop (j + 2)) with
                  | none =>
                    rw [hx] at hgo IX
                    simp only at hgo
                    simp only [idxI] at IX
                    have HS := Lib.hid (H.out.trans hgo)
                    clear H hgo hx hidx
                    go_wp2
                    refine wp_region_pur (by kernel_rfl) (by kernel_rfl) ?_
                    repeat (go_big_quiet_step (((go_at_call 26; with_reducible exact quiet_eq (IX _)))))
                    refine wpQuiet_nil ?_
                    intro wq hq
                    have k6 := k5.pur hq
                    have q0' := k6.q0
                    have q1' := k6.q1
                    clear q0 q1 IX
                    go_wp2
                    refine wp_region_pur (by kernel_rfl) (by kernel_rfl) ?_
                    repeat (go_big_quiet_step (fail))
                    refine wpQuiet_nil ?_
                    intro wz2 hz2
                    have k7 := k6.pur hz2
                    have c1 := k7.c1
                    go_wp2
                    go_ret
                    rw [HS.out]
                    exact ⟨rfl, ⟨_, _, k7⟩, (G5.pur hq).pur hz2⟩
                  | some k =>
                    have hk := hidx k hx
                    rw [hx] at hgo IX
                    simp only at hgo
                    simp only [idxI] at IX
                    clear hidx hx
                    go_wp2
                    refine wp_region_pur (by kernel_rfl) (by kernel_rfl) ?_
                    repeat (go_big_quiet_step (((go_at_call 26; with_reducible exact quiet_eq (IX _)))))
                    refine wpQuiet_nil ?_
                    intro wq hq
                    have k6 := k5.pur hq
                    have q0' := k6.q0
                    have q1' := k6.q1
                    have w3' : IntKind.i64.wrap ((j : Int) + 2 + (k : Int)) = (j : Int) + 2 + (k : Int) := IntWalk.i64_in _ (by omega)
                    have g1 : (j : Int) + 2 ≤ (j : Int) + 2 + (k : Int) := by omega
                    have g2 : (j : Int) + 2 + (k : Int) ≤ l.length := by omega
                    have i3 : ((j : Int) + 2 + (k : Int)).toNat = j + 2 + k := by omega
                    have dk : decide ((k : Int) < 0) = false := by rw [decide_eq_false_iff_not]; omega
                    clear q0 q1 IX
                    go_wp2
                    refine wp_region_pur_tail 21 (by kernel_rfl) (by kernel_rfl) ?_
                    simp only [List.take_succ_cons, List.take_zero, List.drop_succ_cons, List.drop_zero]
                    repeat (go_big_quiet_step (fail))
                    refine wpQuiet_nil ?_
                    intro wz2 hz2
                    have k7 := k6.pur hz2
                    have RM := remark_any (w0 := w0) (sub l (j + 2) (j + 2 + k)) k7 (B5.purd (hq.trans hz2)) (by rw [length_sub]; omega)
                    clear q0' q1'
                    rcases hrm : remark (sub l (j + 2) (j + 2 + k)) with _ | e2
                    · rw [hrm] at hgo RM
                      simp only at hgo
                      have HS := Lib.hid (H.out.trans hgo)
                      clear H hgo hrm
                      go_wp2_with fail
                      refine RM.mono ?_
                      rintro e w9 ⟨rfl, ⟨b9, k9⟩, g9⟩
                      have c1 := k9.c1
                      clear RM
                      go_wp2
                      go_ret
                      rw [HS.out]
                      exact ⟨rfl, ⟨_, _, k9⟩, ((G5.pur hq).pur hz2).trans g9⟩
                    · rw [hrm] at hgo RM
                      simp only at hgo
                      have HS := Lib.hid (H.out.trans hgo)
                      clear H hgo hrm
                      go_wp2_with fail
                      refine RM.mono ?_
                      rintro e w9 ⟨rfl, k9, g9⟩
                      have c1 := k9.c1
                      have f1 := k9.f 1
                      have w4' : IntKind.i64.wrap ((k : Int) + 4) = (k : Int) + 4 := IntWalk.i64_in _ (by omega)
                      have w5' : IntKind.i64.wrap ((j : Int) + ((k : Int) + 4)) = (j : Int) + ((k : Int) + 4) := IntWalk.i64_in _ (by omega)
                      have k10 := k9.seti (j + k + 4) ((j : Int) + ((k : Int) + 4)) (by omega)
                      have G10 := (((G5.pur hq).pur hz2).trans g9).trans (chg1 p w9 1 (.int .i64 ((j : Int) + ((k : Int) + 4))))
                      have e10 := k10.nat
                      clear RM
                      go_wp2
                      go_roundw
                      case rel => exact ⟨j + k + 4, f, _, by omega, by omega, k10, G10, HS⟩
                      case measure => rw [e3, e10]; omega
            · -- a remark of one line
              as_aux_lemma =>
                rw [h1, if_pos rfl] at hgo
                have P1 := fun w' => pref_any (l.drop j) [47, 47] w'
                rw [h1] at P1
                clear h1
                go_wp2_with fail
                refine (RS _ (Pur.refl _)).mono ?_
                rintro e w5 ⟨rfl, p5⟩
                go_wp2_with fail
                refine (P1 _).mono ?_
                rintro e w6 ⟨rfl, rfl⟩
                have k5 := k3.pur p5
                have G5 := G3.pur p5
                clear RS P1 k3 G3 B3
                go_wp2
                go_loopw [111] (fun _ wr => ∃ (j2 g : Nat), j ≤ j2 ∧ j2 ≤ l.length ∧ l.length < j2 + g ∧ Lb wr p l j2 b v ∧ Chg [p] w wr ∧ Hid (lineGo l (l.length + 1) j = lineGo l g j2)) (fun _ wr => l.length + 1 - natAt wr ⟨p, 1, none⟩)
                case atStart => exact ⟨j, l.length + 1, by omega, j2, by omega, k5, G5, Lib.hid rfl⟩
                case round =>
                  clear k5 G5
                  obtain ⟨m, g, m1, m2, mg, k5, G5, L⟩ := hrel
                  obtain ⟨g, rfl⟩ : ∃ h, g = h + 1 := ⟨g - 1, by omega⟩
                  have q0 := k5.q0
                  have q1 := k5.q1
                  have e5 := k5.nat
                  have B5 := B.chg G5
                  by_cases hm : m < l.length
                  · have hm' : (m : Int) < l.length := by omega
                    have NX := fun (w' : World) (hp : Pur wr w') => next_any l m w' (B5.purd hp).w
                    by_cases hn2 : (chr l m).2 = 0
                    · have HL : lineGo l (l.length + 1) j = .error m := by rw [L.out, lineGo, if_pos hm, if_pos hn2]
                      rw [HL] at hgo
                      simp only at hgo
                      have HS := Lib.hid (H.out.trans hgo)
                      rw [hn2] at NX
                      clear H hgo HL L hn2 hlg'
                      go_wp2
                      refine wp_region_pur (by kernel_rfl) (by kernel_rfl) ?_
                      repeat (go_big_quiet_step (fail))
                      refine wpQuiet_nil ?_
                      intro wq hq
                      have k6 := k5.pur hq
                      have q0' := k6.q0
                      have q1' := k6.q1
                      have NX' := fun x : PW wq => NX x.to (hq.trans x.pur)
                      clear q0 q1 NX
                      go_wp2
                      refine wp_region_pur (by kernel_rfl) (by kernel_rfl) ?_
                      repeat (go_big_quiet_step (((go_at_call 29; with_reducible exact quiet_pur (NX' _)))))
                      refine wpQuiet_nil ?_
                      intro wz2 hz2
                      have k7 := k6.pur hz2
                      have c1 := k7.c1
                      clear q0' q1' NX'
                      go_wp2
                      go_ret
                      rw [HS.out]
                      exact ⟨rfl, ⟨_, _, k7⟩, (G5.pur hq).pur hz2⟩
                    · have hn3 : 0 < (chr l m).2 := by omega
                      have hc2 := chr_end hn2
                      have w6' : IntKind.i64.wrap ((m : Int) + ((chr l m).2 : Int)) = (m : Int) + ((chr l m).2 : Int) := IntWalk.i64_in _ (by omega)
                      have HL : lineGo l (l.length + 1) j = if endsC (chr l m).1 then .ok m else lineGo l g (m + (chr l m).2) := by rw [L.out, lineGo, if_pos hm, if_neg hn2]
                      generalize (chr l m).1 = c2 at *
                      generalize (chr l m).2 = n2 at *
                      go_wp2
                      refine wp_region_pur (by kernel_rfl) (by kernel_rfl) ?_
                      repeat (go_big_quiet_step (fail))
                      refine wpQuiet_nil ?_
                      intro wq hq
                      have k6 := k5.pur hq
                      have q0' := k6.q0
                      have q1' := k6.q1
                      have NX' := fun x : PW wq => NX x.to (hq.trans x.pur)
                      clear q0 q1 NX
                      go_wp2
                      refine wp_region_pur (by kernel_rfl) (by kernel_rfl) ?_
                      repeat (go_big_quiet_step (((go_at_call 29; with_reducible exact quiet_pur (NX' _)))))
                      refine wpQuiet_nil ?_
                      intro wz2 hz2
                      have k7 := k6.pur hz2
                      have G7 := (G5.pur hq).pur hz2
                      clear q0' q1' NX' k6 hq
                      rcases hE2 : endsC c2 with _ | _
                      · rw [hE2] at HL
                        obtain ⟨y1, y2, y3, y4⟩ := ends_no hE2
                        have HL2 := Lib.hid HL
                        have c1 := k7.c1
                        have f1 := k7.f 1
                        have k8 := k7.seti (m + n2) ((m : Int) + (n2 : Int)) (by omega)
                        have G8 := G7.trans (chg1 p wz2 1 (.int .i64 ((m : Int) + (n2 : Int))))
                        have e8 := k8.nat
                        clear HL L hgo hlg' hE2 hn2
                        go_wp2
                        go_roundw
                        case rel => exact ⟨m + n2, g, by omega, by omega, by omega, k8, G8, Lib.hid (by rw [HL2.out]; rfl)⟩
                        case measure => rw [e5, e8]; omega
                      · rw [hE2, if_pos rfl] at HL
                        rw [HL] at hgo
                        simp only at hgo
                        have HS := Lib.hid (H.out.trans hgo)
                        have hlt := hlg' m HL
                        have hk := ends_way hE2
                        have e7 := k7.nat
                        clear H hgo HL L hlg' hE2 hn2
                        rcases hk with y1 | ⟨y1, y2⟩ | ⟨y1, y2, y3⟩ | ⟨y1, y2, y3, y4⟩
                        all_goals
                          go_wp2
                          go_roundw
                          case rel => exact ⟨m, f, b, m2, by omega, k7, G7, HS⟩
                          case measure => rw [e3, e7]; omega
                  · have hm' : ¬ (m : Int) < l.length := by omega
                    have HL : lineGo l (l.length + 1) j = .ok m := by rw [L.out, lineGo, if_neg hm]
                    rw [HL] at hgo
                    simp only at hgo
                    have HS := Lib.hid (H.out.trans hgo)
                    have hlt := hlg' m HL
                    clear H hgo HL L hlg'
                    go_wp2
                    refine wp_region_pur (by kernel_rfl) (by kernel_rfl) ?_
                    repeat (go_big_quiet_step (fail))
                    refine wpQuiet_nil ?_
                    intro wq hq
                    have k6 := k5.pur hq
                    have e6 := k6.nat
                    go_wp2
                    go_roundw
                    case rel => exact ⟨m, f, b, m2, by omega, k6, G5.pur hq, HS⟩
                    case measure => rw [e3, e6]; omega
          · rw [hB, if_pos rfl] at hgo
            have HS := Lib.hid (H.out.trans hgo)
            clear H hgo hlg d1 d2 d3 d4 hE hn
            rcases blank_way hB with rfl | rfl | rfl | rfl | rfl | rfl
            all_goals
              as_aux_lemma =>
                clear hB
                have c1 := k3.c1
                have f1 := k3.f 1
                have k4 := k3.seti (j + n) ((j : Int) + (n : Int)) (by omega)
                have G4 := G3.trans (chg1 p wz 1 (.int .i64 ((j : Int) + (n : Int))))
                have e4 := k4.nat
                go_wp2
                go_roundw
                case rel => exact ⟨j + n, f, b, by omega, by omega, k4, G4, HS⟩
                case measure => rw [e3, e4]; omega
        · rw [hE, if_pos rfl] at hgo
          have HS := Lib.hid (H.out.trans hgo)
          have hk := ends_way hE
          clear H hgo hlg hE hn
          rcases hk with d1 | ⟨d1, d2⟩ | ⟨d1, d2, d3⟩ | ⟨d1, d2, d3, d4⟩
          all_goals
            as_aux_lemma =>
              have c2 := k3.c2
              have f2 := k3.f 2
              have k3' := k3.setln true
              have c1 := k3'.c1
              have f1 := k3'.f 1
              have k4 := k3'.seti (j + n) ((j : Int) + (n : Int)) (by omega)
              have G4 := (G3.trans (chg1 p wz 2 (.bool true))).trans (chg1 p _ 1 (.int .i64 ((j : Int) + (n : Int))))
              have e4 := k4.nat
              go_wp2
              go_roundw
              case rel => exact ⟨j + n, f, true, by omega, by omega, k4, G4, HS⟩
              case measure => rw [e3, e4]; omega
    · have hj' : ¬ (j : Int) < l.length := by omega
      have HS := Lib.hid (show skipGo l (l.length + 1) i ln = .ok (j, b) by rw [H.out, skipGo, if_neg hj])
      clear H
      go_wp2
      refine wp_region_pur (by kernel_rfl) (by kernel_rfl) ?_
      repeat (go_big_quiet_step (fail))
      refine wpQuiet_nil ?_
      intro wq hq
      go_wp2
      go_ret
      rw [HS.out]
      exact ⟨rfl, k.pur hq, G.pur hq⟩
end Lx
end Go.Proofs.YtepmneongpbglaaGreatDoor
