/- Layer 3: TreePrefixes. -/
import Derived.Test.YtigfcchblfnnbaaGreatDoorTeL
import Derived.Test.YtigfcchblfnnbaaGreatDoorTeU
import Derived.Deep.CutRange
import Derived.Deep.DeepCutAuto
namespace Go.Proofs.YtigfcchblfnnbaaGreatDoor
open Go Go.RowKit
set_option linter.all false
namespace Te
open Tk (TW)
theorem all_take (l : Bs) (i : Nat) (c : UInt8) (h : l[i]? = some c) : (l.take (i + 1)).all plainB = ((l.take i).all plainB && plainB c) := by
  rw [List.take_succ, h]; simp
set_option maxRecDepth 100000 in
set_option maxHeartbeats 32000000 in
theorem prefixes_law (L O T A B : Bs) (w : World) (hW : TW w) (hX : XW w) (hL : L.length ≤ 1000000000) (hO : O.length ≤ 1000000000) (hT : T.length ≤ 1000000000) (hA : A.length ≤ 1000000000) (hB : B.length ≤ 1000000000) :
    Calls Tryz.prog 3 #[.agg #[.string ⟨L.toArray⟩, .string ⟨O.toArray⟩, .string ⟨T.toArray⟩, .string ⟨A.toArray⟩, .string ⟨B.toArray⟩]] w fun e w' => e = .returned (.bool true) ∧ Pur w w' := by
  obtain ⟨w1, hw1⟩ : ∃ w1, w1 = w.alloc (.cells #[.string ⟨L.toArray⟩, .string ⟨O.toArray⟩, .string ⟨T.toArray⟩, .string ⟨A.toArray⟩, .string ⟨B.toArray⟩] 23) := ⟨_, rfl⟩
  have p1 : Pur w w1 := by rw [hw1]; exact (Pur.refl w).alloc _
  have b1 : w1.heap[w.heap.size]? = some (.cells #[.string ⟨L.toArray⟩, .string ⟨O.toArray⟩, .string ⟨T.toArray⟩, .string ⟨A.toArray⟩, .string ⟨B.toArray⟩] 23 (0, 0)) := by rw [hw1]; exact bk_new w _
  have AW := awake_any w1 (hW.pur p1) (hX.pur p1)
  go_enter Tryz.func3, Tryz.ntmps3
  go_upto_region 1 with (fail)
  rw [← hw1]
  clear hw1
  go_wp2_with fail
  refine AW.mono ?_
  rintro e w2 ⟨rfl, p2⟩
  clear AW
  have p02 := p1.trans p2
  have b2 := bk_pur b1 p2
  have t3 := bk_cell b2 3 _ rfl
  have t4 := bk_cell b2 4 _ rfl
  have RL := fun w => rlocal_any L w (by omega)
  have RO := fun w => rlocal_any O w (by omega)
  have RT := fun w => rlocal_any T w (by omega)
  have hwr : IntKind.i64.wrap ((A.length : Int) + B.length) = (A.length : Int) + B.length := IntWalk.i64_in _ (by omega)
  go_upto_region 3 with (fail)
  go_cut [46] from 14 to 45 (fun u wx => (∃ tb, u = .bool tb ∧ Hid (tb = false → A.length + B.length ≤ 200 ∧ rLocal L = true ∧ rLocal O = true ∧ rLocal T = true ∧ O ≠ T)) ∧ Pur w2 wx)
  case first =>
    have T0 : ∀ wx, Pur w2 wx → wx.cell? ⟨w.heap.size, 0, none⟩ = some (.string ⟨L.toArray⟩) ∧ wx.cell? ⟨w.heap.size, 1, none⟩ = some (.string ⟨O.toArray⟩) ∧ wx.cell? ⟨w.heap.size, 2, none⟩ = some (.string ⟨T.toArray⟩) := fun wx h => ⟨bk_cell (bk_pur b2 h) 0 _ rfl, bk_cell (bk_pur b2 h) 1 _ rfl, bk_cell (bk_pur b2 h) 2 _ rfl⟩
    obtain ⟨u0, u1, u2⟩ := T0 w2 (Pur.refl _)
    replace T0 := Lib.hid T0
    rcases d0 : decide ((200 : Int) < (A.length : Int) + B.length) with _ | _
    · have d0n : A.length + B.length ≤ 200 := by rw [decide_eq_false_iff_not] at d0; omega
      rcases k1 : rLocal L with _ | _
      · rw [k1] at RL
        go_wp2_with fail
        refine (RL _).mono ?_
        rintro e w3 ⟨rfl, p3⟩
        clear RL RO RT u0 u1 u2 t3 t4
        go_wp2
        go_meet
        exact ⟨⟨_, rfl, Lib.hid (fun h => by cases h)⟩, p3⟩
      · rw [k1] at RL
        rcases k2 : rLocal O with _ | _
        · rw [k2] at RO
          go_wp2_with fail
          refine (RL _).mono ?_
          rintro e w3 ⟨rfl, p3⟩
          obtain ⟨v0, v1, v2⟩ := T0.out w3 p3
          clear RL RT u0 u1 u2 t3 t4
          go_wp2_with fail
          refine (RO _).mono ?_
          rintro e w4 ⟨rfl, p4⟩
          clear RO v0 v1 v2
          go_wp2
          go_meet
          exact ⟨⟨_, rfl, Lib.hid (fun h => by cases h)⟩, p3.trans p4⟩
        · rw [k2] at RO
          rcases k3 : rLocal T with _ | _
          · rw [k3] at RT
            go_wp2_with fail
            refine (RL _).mono ?_
            rintro e w3 ⟨rfl, p3⟩
            obtain ⟨v0, v1, v2⟩ := T0.out w3 p3
            clear RL u0 u1 u2 t3 t4
            go_wp2_with fail
            refine (RO _).mono ?_
            rintro e w4 ⟨rfl, p4⟩
            obtain ⟨x0, x1, x2⟩ := T0.out w4 (p3.trans p4)
            clear RO v0 v1 v2
            go_wp2_with fail
            refine (RT _).mono ?_
            rintro e w5 ⟨rfl, p5⟩
            clear RT x0 x1 x2
            go_wp2
            go_meet
            exact ⟨⟨_, rfl, Lib.hid (fun h => by cases h)⟩, p3.trans (p4.trans p5)⟩
          · rw [k3] at RT
            rcases k4 : (O == T) with _ | _
            · have k4n : O ≠ T := by rw [beq_eq_false_iff_ne] at k4; exact k4
              have HF : Hid (A.length + B.length ≤ 200 ∧ rLocal L = true ∧ rLocal O = true ∧ rLocal T = true ∧ O ≠ T) := Lib.hid ⟨d0n, k1, k2, k3, k4n⟩
              clear k4n
              go_wp2_with fail
              refine (RL _).mono ?_
              rintro e w3 ⟨rfl, p3⟩
              obtain ⟨v0, v1, v2⟩ := T0.out w3 p3
              clear RL u0 u1 u2 t3 t4
              go_wp2_with fail
              refine (RO _).mono ?_
              rintro e w4 ⟨rfl, p4⟩
              obtain ⟨x0, x1, x2⟩ := T0.out w4 (p3.trans p4)
              clear RO v0 v1 v2
              go_wp2_with fail
              refine (RT _).mono ?_
              rintro e w5 ⟨rfl, p5⟩
              obtain ⟨y0, y1, y2⟩ := T0.out w5 (p3.trans (p4.trans p5))
              clear RT x0 x1 x2
              go_wp2
              go_meet
              exact ⟨⟨_, rfl, Lib.hid (fun _ => HF.out)⟩, p3.trans (p4.trans p5)⟩
            · go_wp2_with fail
              refine (RL _).mono ?_
              rintro e w3 ⟨rfl, p3⟩
              obtain ⟨v0, v1, v2⟩ := T0.out w3 p3
              clear RL u0 u1 u2 t3 t4
              go_wp2_with fail
              refine (RO _).mono ?_
              rintro e w4 ⟨rfl, p4⟩
              obtain ⟨x0, x1, x2⟩ := T0.out w4 (p3.trans p4)
              clear RO v0 v1 v2
              go_wp2_with fail
              refine (RT _).mono ?_
              rintro e w5 ⟨rfl, p5⟩
              obtain ⟨y0, y1, y2⟩ := T0.out w5 (p3.trans (p4.trans p5))
              clear RT x0 x1 x2
              go_wp2
              go_meet
              exact ⟨⟨_, rfl, Lib.hid (fun h => by cases h)⟩, p3.trans (p4.trans p5)⟩
    · clear RL RO RT u0 u1 u2
      go_wp2
      go_meet
      exact ⟨⟨_, rfl, Lib.hid (fun h => by cases h)⟩, Pur.refl _⟩
  case rest =>
    obtain ⟨⟨tb, rfl, HT⟩, p3⟩ := hcut
    obtain ⟨w3, rfl, p3⟩ := pur_end p3
    have p03 := p02.trans p3
    have b3 := bk_pur b2 p3
    clear RL RO RT t3 t4 p02 p2 p1 b1 b2 hwr p3
    cases tb with
    | true =>
      go_wp2
      go_ret
      exact ⟨rfl, p03⟩
    | false =>
      obtain ⟨hAB, kL, kO, kT, hOT⟩ := HT.out rfl
      have hLl : L.length ≤ 192 := by
        obtain ⟨cs, rfl, h⟩ := rlocal_loc kL
        have := narrow_4 cs
        have := h.len
        omega
      have hOl : O.length ≤ 192 := by
        obtain ⟨cs, rfl, h⟩ := rlocal_loc kO
        have := narrow_4 cs
        have := h.len
        omega
      have hTl : T.length ≤ 192 := by
        obtain ⟨cs, rfl, h⟩ := rlocal_loc kT
        have := narrow_4 cs
        have := h.len
        omega
      have PL : Hid (A.all plainB = true → B.all plainB = true → ∃ n m : NodeV, parse (bytesP L O T A B) = .ok [n] ∧ parse (bytesQ L O T A B) = .ok [m] ∧ n.bare = m.bare ∧ n.ex.length = 2) := Lib.hid fun ha hb => prefixes_plain kL kO kT hOT ha hb hAB
      clear kL kO kT hOT HT
      have t3 := bk_cell b3 3 _ rfl
      have t4 := bk_cell b3 4 _ rfl
      obtain ⟨w4, hw4⟩ : ∃ w4, w4 = w3.alloc (.cells #[.string ⟨A.toArray⟩, .string ⟨B.toArray⟩] 9) := ⟨_, rfl⟩
      have p4 : Pur w3 w4 := by rw [hw4]; exact (Pur.refl w3).alloc _
      have b4 : w4.heap[w3.heap.size]? = some (.cells #[.string ⟨A.toArray⟩, .string ⟨B.toArray⟩] 9 (0, 0)) := by rw [hw4]; exact bk_new w3 _
      have c3 := bk_pur b3 p4
      have p04 := p03.trans p4
      have CV : ∀ (j : Nat) v, [A, B][j]? = some v → w4.cell? ⟨w3.heap.size, j, none⟩ = some (.string ⟨v.toArray⟩) := fun j v h => by
        rcases j with _ | _ | j
        · cases h; exact bk_cell b4 0 _ rfl
        · cases h; exact bk_cell b4 1 _ rfl
        · simp at h
      have CL : ∀ (j : Nat) v, [A, B][j]? = some v → v.length ≤ 200 := fun j v h => by
        rcases j with _ | _ | j
        · cases h; omega
        · cases h; omega
        · simp at h
      replace CV := Lib.hid CV
      replace CL := Lib.hid CL
      go_wp2
      rw [← hw4]
      clear hw4 t3 t4 b3
      go_loopw [53] (fun k wx => ∃ j : Nat, j ≤ 2 ∧ k = .int .i64 j ∧ wx = w4 ∧ Hid (∀ x ∈ [A, B].take j, x.all plainB = true)) (fun k _ => 3 - (intOf k).toNat)
      case atStart => exact ⟨0, by omega, rfl, rfl, Lib.hid (by simp)⟩
      case round =>
        obtain ⟨j, hj, rfl, e0, HJ⟩ := hrel
        subst wr
        by_cases hlt : j < 2
        · have hlt' : (j : Int) < 2 := by omega
          obtain ⟨v, hv⟩ : ∃ v, [A, B][j]? = some v := by
            rcases j with _ | _ | j
            · exact ⟨_, rfl⟩
            · exact ⟨_, rfl⟩
            · omega
          have cv := CV.out j v hv
          have hvl := CL.out j v hv
          have HJ2 : Hid (v.all plainB = true → ∀ x ∈ [A, B].take (j + 1), x.all plainB = true) := Lib.hid fun h x hx => by
            rw [List.take_succ, hv] at hx
            simp only [List.mem_append, Option.toList_some, List.mem_singleton] at hx
            rcases hx with hx | rfl
            · exact HJ.out x hx
            · exact h
          clear hv HJ
          go_wp2
          go_loopw [59] (fun k wx => ∃ i : Nat, i ≤ v.length ∧ k = .int .i64 i ∧ wx = w4 ∧ Hid ((v.take i).all plainB = true)) (fun k _ => v.length + 1 - (intOf k).toNat)
          case atStart => exact ⟨0, by omega, rfl, rfl, Lib.hid (by simp)⟩
          case round =>
            obtain ⟨i, hi, rfl, e0, HI⟩ := hrel
            subst wr
            by_cases hlti : i < v.length
            · have hlti' : (i : Int) < v.length := by omega
              obtain ⟨c, hci⟩ : ∃ c, v[i]? = some c := ⟨_, List.getElem?_eq_getElem hlti⟩
              have hb8 : by8 v i = c.toNat := by unfold by8; rw [List.getD_eq_getElem?_getD, hci]; rfl
              have hst := all_take v i c hci
              have hbl := by8_lt v i
              have hpb : Hid (c.toNat = by8 v i) := Lib.hid hb8.symm
              rcases k1 : decide ((by8 v i : Int) < 32) with _ | _
              · rcases k2 : decide ((126 : Int) < (by8 v i : Int)) with _ | _
                · rcases k3 : ((by8 v i : Int) == 60) with _ | _
                  · rcases k4 : ((by8 v i : Int) == 38) with _ | _
                    · rcases k5 : ((by8 v i : Int) == 34) with _ | _
                      · have HI2 : Hid ((v.take (i + 1)).all plainB = true) := Lib.hid (by
                          rw [hst, HI.out]
                          rw [decide_eq_false_iff_not] at k1 k2
                          rw [beq_eq_false_iff_ne] at k3 k4 k5
                          unfold plainB
                          rw [hpb.out, decide_eq_false (by omega), decide_eq_false (by omega), decide_eq_false (by omega), decide_eq_false (by omega), decide_eq_false (by omega)]
                          rfl)
                        clear hci hst hb8 HI
                        go_wp2
                        go_roundw
                        case rel => exact ⟨i + 1, by omega, by go_num, trivial, HI2⟩
                        case measure => simp [intOf]; omega
                      · clear hci hst hb8 HI
                        go_wp2
                        go_ret
                        exact ⟨rfl, p04⟩
                    · clear hci hst hb8 HI
                      go_wp2
                      go_ret
                      exact ⟨rfl, p04⟩
                  · clear hci hst hb8 HI
                    go_wp2
                    go_ret
                    exact ⟨rfl, p04⟩
                · clear hci hst hb8 HI
                  go_wp2
                  go_ret
                  exact ⟨rfl, p04⟩
              · clear hci hst hb8 HI
                go_wp2
                go_ret
                exact ⟨rfl, p04⟩
            · have hi2 : i = v.length := by omega
              subst hi2
              have hlti' : ¬ ((v.length : Nat) : Int) < v.length := by omega
              have HV := HI.out
              rw [List.take_length] at HV
              have HJ3 := Lib.hid (HJ2.out HV)
              clear HI HJ2 HV hlti hi
              go_wp2
              go_roundw
              case rel => exact ⟨j + 1, by omega, by go_num, trivial, HJ3⟩
              case measure => simp [intOf]; omega
        · have hj2 : j = 2 := by omega
          subst hj2
          have hlt' : ¬ ((2 : Nat) : Int) < 2 := by omega
          obtain ⟨n, m, hP, hQ, hbare, hex⟩ := PL.out (HJ.out A (by simp)) (HJ.out B (by simp))
          have t0 := bk_cell c3 0 _ rfl
          have t1 := bk_cell c3 1 _ rfl
          have t2 := bk_cell c3 2 _ rfl
          have t3 := bk_cell c3 3 _ rfl
          have t4 := bk_cell c3 4 _ rfl
          replace hP := Lib.hid hP
          replace hQ := Lib.hid hQ
          clear HJ PL CV CL hlt hj
          go_upto_region 15 with (fail)
          clear t0 t1 t2 t3 t4
          have T1 : ∀ x : PW w4, x.to.cell? ⟨w.heap.size, 1, none⟩ = some (.string ⟨O.toArray⟩) := fun x => bk_cell (bk_pur c3 x.pur) 1 _ rfl
          have T2 : ∀ x : PW w4, x.to.cell? ⟨w.heap.size, 2, none⟩ = some (.string ⟨T.toArray⟩) := fun x => bk_cell (bk_pur c3 x.pur) 2 _ rfl
          have T3 : ∀ x : PW w4, x.to.cell? ⟨w.heap.size, 3, none⟩ = some (.string ⟨A.toArray⟩) := fun x => bk_cell (bk_pur c3 x.pur) 3 _ rfl
          have T4 : ∀ x : PW w4, x.to.cell? ⟨w.heap.size, 4, none⟩ = some (.string ⟨B.toArray⟩) := fun x => bk_cell (bk_pur c3 x.pur) 4 _ rfl
          refine wp_region_pur (by kernel_rfl) (by kernel_rfl) ?_
          repeat (first | (quiet_step (fail)) | (refine wpQuiet_step (fun K hK => ?_); go_simp; apply Exists.intro; refine ⟨fun _ => ?_, hK _ ?_⟩; (rw [if_neg (by omega)]; exact ⟨rfl, rfl⟩); clear hK K))
          refine wpQuiet_nil ?_
          intro w5 p5
          have c5 := bk_pur c3 p5
          have p05 := p04.trans p5
          have t0 := bk_cell c5 0 _ rfl
          clear T1 T2 T3 T4
          go_wp2_with fail
          refine (parse_as (l' := bytesP L O T A B) (by simp [bytesP]) hP.out _ (hW.pur p05) (hX.pur p05)).mono ?_
          rintro e w6 ⟨p6, v1, ev1, rfl, hR1⟩
          have p06 := p05.trans p6
          have c6 := bk_pur c5 p6
          obtain ⟨w7, hw7⟩ : ∃ w7, w7 = w6.alloc (.cells #[v1] 29) := ⟨_, rfl⟩
          have q7 : Pur w6 w7 := by rw [hw7]; exact (Pur.refl w6).alloc _
          have b7 : w7.heap[w6.heap.size]? = some (.cells #[v1] 29 (0, 0)) := by rw [hw7]; exact bk_new w6 _
          have c7 := bk_pur c6 q7
          have p07 := p06.trans q7
          have hN1 := hR1.read.less.pur q7
          obtain ⟨a1, cc1, hv1⟩ := hN1.shape
          change v1 = .slice a1 1 cc1 at hv1
          subst hv1
          clear t0
          go_upto_region 17 with (fail)
          rw [← hw7]
          clear hw7
          have t0 := bk_cell c7 0 _ rfl
          go_wp2_with fail
          refine (parse_as (l' := bytesQ L O T A B) (by simp [bytesQ]) hQ.out _ (hW.pur p07) (hX.pur p07)).mono ?_
          rintro e w8 ⟨p8, v2, ev2, rfl, hR2⟩
          obtain ⟨w9, hw9⟩ : ∃ w9, w9 = w8.alloc (.cells #[v2] 29) := ⟨_, rfl⟩
          have q9 : Pur w8 w9 := by rw [hw9]; exact (Pur.refl w8).alloc _
          have b9 : w9.heap[w8.heap.size]? = some (.cells #[v2] 29 (0, 0)) := by rw [hw9]; exact bk_new w8 _
          have q79 := p8.trans q9
          have p09 := p07.trans q79
          have b79 := bk_pur b7 q79
          have hN2 := hR2.read.less.pur q9
          have hN1' := hN1.pur q79
          have SM := tsame_any [n] [m] _ _ w9 false hN1'.q hN2.q (by simp [hbare]) (fun h => by cases h)
          obtain ⟨a2, cc2, hv2⟩ := hN2.shape
          change v2 = .slice a2 1 cc2 at hv2
          subst hv2
          obtain ⟨gn, on, ea, ec, pp, qq, e1, hgn, HC⟩ := NRead.node (ns := [n]) (a := a1) (c := cc1) hN1' (i := 0) (n := n) rfl
          obtain ⟨-, -, k2, -⟩ := HC w9 (Pur.refl _)
          cases e1
          rw [hex] at k2
          have s0 := bk_cell b79 0 _ rfl
          have s9 := bk_cell b9 0 _ rfl
          clear t0 HC c5 c6 c7 hR1 hR2
          go_upto_region 18 with (fail)
          rw [← hw9]
          clear hw9
          go_wp2_with fail
          refine SM.mono ?_
          rintro e w10 ⟨rfl, p10⟩
          go_wp2
          go_ret
          exact ⟨rfl, p09.trans p10⟩
end Te
end Go.Proofs.YtigfcchblfnnbaaGreatDoor
