/- Layer 3: TreeNests. -/
import Derived.Test.YtigfcchblfnnbaaGreatDoorTeN
import Derived.Deep.CutRange
import Derived.Deep.DeepCutAuto
namespace Go.Proofs.YtigfcchblfnnbaaGreatDoor
open Go Go.RowKit
set_option linter.all false
namespace Te
open Tk (TW)
set_option maxRecDepth 100000 in
set_option maxHeartbeats 32000000 in
theorem nests_law (l : Bs) (w : World) (hW : TW w) (hX : XW w) (hl : l.length ≤ 1000000000) :
    Calls Tryz.prog 4 #[.string ⟨l.toArray⟩] w fun e w' => e = .returned (.bool true) ∧ Pur w w' := by
  have AW := awake_any w hW hX
  have hb0 := by8_lt l 0
  have hb1 := by8_lt l 1
  go_enter Tryz.func4, Tryz.ntmps4
  go_wp2_with fail
  refine AW.mono ?_
  rintro e w1 ⟨rfl, p1⟩
  clear AW
  go_upto_region 3 with (fail)
  go_cut [37] from 10 to 36 (fun u wx => (∃ tb, u = .bool tb ∧ Hid (tb = false → l.length ≤ 3000 ∧ 0 < l.length ∧ by8 l 0 = 60 ∧ by8 l 1 ≠ 33 ∧ by8 l 1 ≠ 63)) ∧ w1 = wx)
  case first =>
    rcases d0 : decide ((3000 : Int) < l.length) with _ | _
    · have d0n : l.length ≤ 3000 := by rw [decide_eq_false_iff_not] at d0; omega
      rcases Nat.eq_zero_or_pos l.length with d1 | d1
      · have d1a : ((l.length : Int) == 0) = true := by rw [beq_iff_eq]; omega
        clear d0n
        have d1 := Lib.hid d1
        go_wp2
        go_meet
        exact ⟨⟨_, rfl, Lib.hid (fun h => by cases h)⟩, rfl⟩
      · have d1a : ((l.length : Int) == 0) = false := by rw [beq_eq_false_iff_ne]; omega
        have d1b : (0 : Int) < l.length := by omega
        have d1c : ¬ (l.length : Int) = 0 := by omega
        have d1d : ¬ l = [] := by rintro rfl; simp at d1
        rcases d2 : ((by8 l 0 : Int) == 60) with _ | _
        · have d2p : ¬ (by8 l 0 : Int) = 60 := by rw [beq_eq_false_iff_ne] at d2; exact d2
          have d2q : ¬ by8 l 0 = 60 := by omega
          clear d0n
          go_wp2
          go_meet
          exact ⟨⟨_, rfl, Lib.hid (fun h => by cases h)⟩, rfl⟩
        · have d2n : by8 l 0 = 60 := by rw [beq_iff_eq] at d2; omega
          have d2p : (by8 l 0 : Int) = 60 := by omega
          replace d2n := Lib.hid d2n
          replace d0n := Lib.hid d0n
          rcases d3 : decide ((1 : Int) < l.length) with _ | _
          · have d3n : l.length ≤ 1 := by rw [decide_eq_false_iff_not] at d3; omega
            have h1 : Hid (by8 l 1 = 0) := Lib.hid (by unfold by8; rw [List.getD_eq_getElem?_getD, List.getElem?_eq_none (by omega)]; rfl)
            have d1' := Lib.hid d1
            have d3p : ¬ (1 : Int) < l.length := by omega
            have d3q : ¬ 1 < l.length := by omega
            clear d3n
            go_wp2
            go_meet
            exact ⟨⟨_, rfl, Lib.hid (fun _ => ⟨d0n.out, d1'.out, d2n.out, by rw [h1.out]; decide, by rw [h1.out]; decide⟩)⟩, rfl⟩
          · have d3n : (1 : Int) < l.length := by rw [decide_eq_true_eq] at d3; exact d3
            have d3q : 1 < l.length := by omega
            have d1' := Lib.hid d1
            rcases d4 : ((by8 l 1 : Int) == 63) with _ | _
            · have d4p : ¬ (by8 l 1 : Int) = 63 := by rw [beq_eq_false_iff_ne] at d4; exact d4
              have d4q : ¬ by8 l 1 = 63 := by omega
              rcases d5 : ((by8 l 1 : Int) == 33) with _ | _
              · have h1 : Hid (by8 l 1 ≠ 33 ∧ by8 l 1 ≠ 63) := Lib.hid (by rw [beq_eq_false_iff_ne] at d4 d5; omega)
                have d5p : ¬ (by8 l 1 : Int) = 33 := by rw [beq_eq_false_iff_ne] at d5; exact d5
                have d5q : ¬ by8 l 1 = 33 := by omega
                go_wp2
                go_meet
                exact ⟨⟨_, rfl, Lib.hid (fun _ => ⟨d0n.out, d1'.out, d2n.out, h1.out.1, h1.out.2⟩)⟩, rfl⟩
              · have d5p : (by8 l 1 : Int) = 33 := by rw [beq_iff_eq] at d5; exact d5
                go_wp2
                go_meet
                exact ⟨⟨_, rfl, Lib.hid (fun h => by cases h)⟩, rfl⟩
            · have d4p : (by8 l 1 : Int) = 63 := by rw [beq_iff_eq] at d4; exact d4
              go_wp2
              go_meet
              exact ⟨⟨_, rfl, Lib.hid (fun h => by cases h)⟩, rfl⟩
    · go_wp2
      go_meet
      exact ⟨⟨_, rfl, Lib.hid (fun h => by cases h)⟩, rfl⟩
  case rest =>
    obtain ⟨⟨tb, rfl, HT⟩, e0⟩ := hcut
    subst e0
    cases tb with
    | true =>
      go_wp2
      go_ret
      exact ⟨rfl, p1⟩
    | false =>
      obtain ⟨h3000, hpos, h60, h33, h63⟩ := HT.out rfl
      have NP : Hid (∀ ns, parse l = .ok ns → (∀ i, i < ns.length → depthR ns i < 32) → ns.length ≤ 2000 → ∃ ms, parse ([60, 119, 62] ++ (l ++ [60, 47, 119, 62])) = .ok ms ∧ ns.length + 1 ≤ ms.length ∧ (∃ m, ms[0]? = some m ∧ m.lo = [119]) ∧ ∀ (i : Nat) n, ns[i]? = some n → ∃ m, ms[i + 1]? = some m ∧ nN m = nN (upN n)) :=
        Lib.hid fun ns h hd hn => nest_plain h h3000 h60 h33 h63 hd hn
      have PP : Hid (∀ ns, parse l = .ok ns → 0 < ns.length) := Lib.hid fun ns h => parse_pos h
      have WP : Hid (∀ ns, parse l = .ok ns → WfP ns) := Lib.hid fun ns h => parse_wf h
      clear HT h60 h33 h63 hpos
      have P1 := parse_any l w1 (hW.pur p1) (hX.pur p1)
      rcases hr : parse l with q | ns
      · -- a fault
        rw [hr] at P1
        clear hr NP WP PP
        go_wp2_with fail
        refine P1.mono ?_
        rintro e w2 ⟨p2, fv, rfl, b, -, rfl, hb⟩
        clear P1
        go_wp2
        go_ret
        exact ⟨rfl, (p1.trans p2).alloc _⟩
      · rw [hr] at P1
        go_wp2_with fail
        refine P1.mono ?_
        rintro e w2 ⟨p2, v1, ev1, rfl, hR1⟩
        clear P1
        obtain ⟨w3, hw3⟩ : ∃ w3, w3 = w2.alloc (.cells #[v1] 29) := ⟨_, rfl⟩
        have q3 : Pur w2 w3 := by rw [hw3]; exact (Pur.refl w2).alloc _
        have b3 : w3.heap[w2.heap.size]? = some (.cells #[v1] 29 (0, 0)) := by rw [hw3]; exact bk_new w2 _
        have p03 := (p1.trans p2).trans q3
        have hN1 := hR1.read.less.pur q3
        obtain ⟨a1, c1, rfl⟩ := hN1.shape
        obtain ⟨-, hc1, hm1⟩ := hN1.len
        have t3 := bk_cell b3 0 _ rfl
        have HWf := WP.out ns hr
        have hnpos := PP.out ns hr
        replace hr := Lib.hid hr
        replace HWf := Lib.hid HWf
        clear WP PP hR1 p2 q3
        go_upto_region 6 with (fail)
        rw [← hw3]
        clear hw3
        rcases d1 : decide ((2000 : Int) < ns.length) with _ | _
        · have hn : ns.length ≤ 2000 := by rw [decide_eq_false_iff_not] at d1; omega
          go_wp2
          go_loopw [62] (fun k wx => ∃ j : Nat, j ≤ ns.length ∧ k = .int .i64 j ∧ Pur w3 wx ∧ Hid (∀ i, i < j → depthR ns i < 32)) (fun k _ => ns.length + 1 - (intOf k).toNat)
          case atStart => exact ⟨0, by omega, rfl, Pur.refl _, Lib.hid (by omega)⟩
          case round =>
            obtain ⟨j, hj, rfl, hpr, HD⟩ := hrel
            have t4 := bk_cell (bk_pur b3 hpr) 0 _ rfl
            by_cases hlt : j < ns.length
            · have hlt' : (j : Int) < ns.length := by omega
              have DA := depth_any ns _ j wr (hN1.pur hpr) HWf.out (by omega) hlt
              obtain ⟨DR, hDR⟩ : ∃ DR, DR = depthR ns j := ⟨_, rfl⟩
              rw [← hDR] at DA
              replace hDR := Lib.hid hDR
              clear t3
              rcases d2 : decide ((32 : Int) ≤ (DR : Int)) with _ | _
              · have d2n : DR < 32 := by rw [decide_eq_false_iff_not] at d2; omega
                have HD2 : Hid (∀ i, i < j + 1 → depthR ns i < 32) := Lib.hid fun i hi => by
                  by_cases h : i < j
                  · exact HD.out i h
                  · rw [show i = j by omega, ← hDR.out]; exact d2n
                clear d2n HD
                go_wp2_with fail
                refine DA.mono ?_
                rintro e w4 ⟨rfl, p4⟩
                clear DA t4
                go_wp2
                go_roundw
                case rel => exact ⟨j + 1, by omega, by go_num, hpr.trans p4, HD2⟩
                case measure => simp [intOf]; omega
              · go_wp2_with fail
                refine DA.mono ?_
                rintro e w4 ⟨rfl, p4⟩
                clear DA t4
                go_wp2
                go_ret
                exact ⟨rfl, p03.trans (hpr.trans p4)⟩
            · have hj2 : j = ns.length := by omega
              subst hj2
              have hlt' : ¬ ((ns.length : Nat) : Int) < ns.length := by omega
              obtain ⟨ms, hP2, hml, ⟨m0, hm0, hm0l⟩, hms⟩ := NP.out ns hr.out HD.out hn
              have p04 := p03.trans hpr
              have hN4 := hN1.pur hpr
              have b4 := bk_pur b3 hpr
              have hle : parse (60 :: 119 :: 62 :: (l ++ [60, 47, 119, 62])) = .ok ms := hP2
              have P2 := parse_as (l := 60 :: 119 :: 62 :: (l ++ [60, 47, 119, 62])) rfl hle wr (hW.pur p04) (hX.pur p04)
              replace hm0 := Lib.hid hm0
              replace hms := Lib.hid hms
              have HWf2 := HWf
              clear hP2 hle NP HD hr HWf t3 hlt hj
              go_wp2_with fail
              refine P2.mono ?_
              rintro e w5 ⟨p5, v2, ev2, rfl, hR2⟩
              clear P2 t4
              obtain ⟨w6, hw6⟩ : ∃ w6, w6 = w5.alloc (.cells #[v2] 29) := ⟨_, rfl⟩
              have q6 : Pur w5 w6 := by rw [hw6]; exact (Pur.refl w5).alloc _
              have b6 : w6.heap[w5.heap.size]? = some (.cells #[v2] 29 (0, 0)) := by rw [hw6]; exact bk_new w5 _
              have hR6 := hR2.pur q6
              have p46 := p5.trans q6
              have b46 := bk_pur b4 p46
              have hpos2 : 0 < ms.length := by omega
              obtain ⟨g, cap, e1, hgl, hgw, hcap, hcell⟩ := row_at hR6.nodes hpos2
              subst e1
              have hlow : wr.heap.size ≤ g := hR6.low g (by simp [Value.ownBlock])
              obtain ⟨CC, hgb⟩ := own_type hR6.nodes (g := g) rfl
              have kw : w6.cell? ⟨g, 1, none⟩ = some (.string ⟨#[119]⟩) := by
                obtain ⟨e0, he0⟩ : ∃ e0, ev2[0]? = some e0 := ⟨ev2[0]'(by rw [hR6.len]; exact hpos2), List.getElem?_eq_getElem _⟩
                have := node_cells ev2 ms 0 1 e0 m0 he0 hm0.out (by omega)
                have h2 := (hcell 1 (.string ⟨m0.lo.toArray⟩) (by simpa [NodeV.cells] using this)).1
                rw [hm0l] at h2
                exact h2
              clear hcell hR2
              obtain ⟨M, hM⟩ : ∃ M, M = ms.length := ⟨_, rfl⟩
              obtain ⟨N, hNn⟩ : ∃ N, N = ns.length := ⟨_, rfl⟩
              have t6 := bk_cell b6 0 _ rfl
              have t46 := bk_cell b46 0 _ rfl
              rw [← hM] at t6 hml hcap hpos2
              rw [← hNn] at t46 hml hn hnpos
              replace hM := Lib.hid hM
              replace hNn := Lib.hid hNn
              have hml' : ¬ ((M : Int) < (N : Int) + 1) := by omega
              have hwN : IntKind.i64.wrap ((N : Int) + 1) = (N : Int) + 1 := IntWalk.i64_in _ (by omega)
              have hM0 : (0 : Int) < M := by omega
              have hcN : (N : Int) + 1 ≤ cap := by omega
              have fb := fun i => bk_free b6 i
              have hcap1 : ¬ cap = 1 := by omega
              have hN0 : (0 : Int) ≤ N := by omega
              go_upto_region 15 with (fail)
              rw [← hw6]
              clear hw6
              obtain ⟨wq, hwq⟩ : ∃ x : World, x = wr := ⟨wr, rfl⟩
              subst hwq
              go_upto_region 18 with (fail)
              obtain ⟨tb, htb⟩ : ∃ tb, tb = w5.heap.size := ⟨_, rfl⟩
              obtain ⟨w7, hw7⟩ : ∃ w7, w7 = w6.setCell ⟨w5.heap.size, 0, none⟩ (.slice (some ⟨g, 7, none⟩) N (cap - 1)) := ⟨_, rfl⟩
              have hC7 : Chg [tb, g] w6 w7 := by rw [hw7, htb]; exact (Chg.refl _ w6).setCell (.inl (by simp)) _
              have b7 : w7.heap[tb]? = some (.cells #[.slice (some ⟨g, 7, none⟩) N (cap - 1)] 29 (0, 0)) := by rw [hw7, htb]; exact bk_set b6 0 _
              have htg : tb ≠ g := by
                rintro rfl
                rw [htb] at hgb
                rw [b6] at hgb
                simp at hgb
              have hrow7 : w7.ownsRow 0 38 7 (.slice (some ⟨g, 0, none⟩) M cap) M (nodeCells ev2 (decP ms 0)) := by
                rw [decP_zero, hM.out]
                exact row_chg hR6.nodes (S := [tb]) (by rw [hw7, htb]; exact (Chg.refl _ w6).setCell (.inl (by simp)) _) (fun x hx hm => by simp [Value.ownBlock] at hx; simp at hm; omega)
              rw [← hw7]
              clear hw7 t6 t46 fb kw
              have b6' : w6.heap[tb]? = some (.cells #[.slice (some ⟨g, 0, none⟩) ms.length cap] 29 (0, 0)) := by rw [htb]; exact b6
              have hTB : wq.heap.size ≤ tb := by rw [htb]; exact p5.size
              rw [← htb] at *
              have t7 := bk_cell b7 0 _ rfl
              replace htb := Lib.hid htb
              go_wp2
              go_loopw [108] (fun k wx => ∃ j : Nat, j ≤ N ∧ k = .int .i64 j ∧ Chg [tb, g] w6 wx ∧ wx.heap[tb]? = some (.cells #[.slice (some ⟨g, 7, none⟩) N (cap - 1)] 29 (0, 0)) ∧ wx.ownsRow 0 38 7 (.slice (some ⟨g, 0, none⟩) M cap) M (nodeCells ev2 (decP ms j))) (fun k _ => N + 1 - (intOf k).toNat)
              case atStart => exact ⟨0, by omega, rfl, hC7, b7, hrow7⟩
              case round =>
                clear t7 b7 hrow7 hC7
                obtain ⟨j, hj, rfl, hC, hbT, hrow⟩ := hrel
                have t8 := bk_cell hbT 0 _ rfl
                by_cases hlt : j < N
                · have hlt' : (j : Int) < N := by omega
                  obtain ⟨n, hn1⟩ : ∃ n, ns[j]? = some n := ⟨_, List.getElem?_eq_getElem (by rw [← hNn.out]; exact hlt)⟩
                  obtain ⟨m, hm1, hm2⟩ := hms.out j n hn1
                  obtain ⟨-, hpar⟩ := bare_dec hm2
                  have hwfn := HWf2.out j n hn1
                  have hmd : (decP ms j)[j + 1]? = some m := by rw [decP_at ms j _ m hm1, if_neg (by omega)]
                  have hel : ev2.length = (decP ms j).length := by rw [decP_len]; exact hR6.len
                  have hml2 := (List.getElem?_eq_some_iff.1 hm1).1
                  obtain ⟨e0, he0⟩ : ∃ e0, ev2[j + 1]? = some e0 := ⟨ev2[j + 1]'(by rw [hR6.len]; exact hml2), List.getElem?_eq_getElem _⟩
                  have hnc := node_cells ev2 (decP ms j) (j + 1) 4 e0 m he0 hmd (by omega)
                  have hset := nodeCells_set ev2 (decP ms j) (j + 1) m (m.par - 1) hel hmd
                  rw [← decP_set ms j m hm1] at hset
                  have e7 : 7 * (j + 1) + 4 = 7 + j * 7 + 4 := by omega
                  obtain ⟨g2, c2, e2, -, -, -, hc2⟩ := row_at hrow (by omega)
                  cases e2
                  obtain ⟨k1, kf⟩ := hc2 (7 * (j + 1) + 4) (.int .i64 m.par) (by simpa [NodeV.cells] using hnc)
                  have hst := (hrow.stored (7 * (j + 1) + 4) (.int .i64 (m.par - 1))).1
                  rw [hset] at hst
                  have hC2 := hC.setCell (a := ⟨g, 7 * (j + 1) + 4, none⟩) (.inl (by simp)) (.int .i64 (m.par - 1))
                  have hbT2 := bk_other hbT (a := ⟨g, 7 * (j + 1) + 4, none⟩) htg (.int .i64 (m.par - 1))
                  rw [e7] at k1 kf hst hC2 hbT2
                  generalize m.par = P at *
                  have hwp : IntKind.i64.wrap (P - 1) = P - 1 := IntWalk.i64_in _ (by omega)
                  have hcj : (N : Int) ≤ ((cap - 1 : Nat) : Int) := by omega
                  clear hn1 hm1 hm2 hpar hwfn hmd hel hnc hset e7 hc2 he0 hrow hml2
                  go_wp2
                  go_roundw
                  case rel => exact ⟨j + 1, by omega, by go_num, hC2, hbT2, hst⟩
                  case measure => simp [intOf]; omega
                · have hj2 : j = N := by omega
                  subst hj2
                  have hlt' : ¬ ((j : Nat) : Int) < j := by omega
                  have hlow2 : ∀ x ∈ [tb, g], wq.heap.size ≤ x := fun x hx => by
                    simp at hx
                    rcases hx with rfl | rfl
                    · exact hTB
                    · exact hlow
                  have hPq : Pur wq wr := pur_chgS p46 hC hlow2
                  have hN5 := hN4.pur hPq
                  have b5 := bk_pur b4 hPq
                  have t9 := bk_cell b5 0 _ rfl
                  have hU : NRead wr (.slice (some ⟨g, 7, none⟩) j (cap - 1)) (((decP ms j).drop 1).take j) := by
                    refine row_part j (evs := ev2) (by rw [decP_len, ← hM.out]; exact hrow) (by rw [decP_len]; exact hR6.len) (fun i u n hu hn => ?_) (by rw [decP_len, ← hM.out]; omega) (by omega)
                    obtain ⟨m, hm⟩ : ∃ m, ms[i]? = some m := ⟨ms[i]'(by have := (List.getElem?_eq_some_iff.1 hn).1; rw [decP_len] at this; exact this), List.getElem?_eq_getElem _⟩
                    have hex := hR6.ex i u m hu hm
                    rw [decP_at ms j i m hm] at hn
                    have hne : n.ex = m.ex := by cases hn; split <;> rfl
                    rw [hne]
                    refine row_chg hex hC (fun x hx hmm => ?_)
                    have hap := hR6.apart
                    have hty := own_type hex hx
                    obtain ⟨C2, hC2⟩ := hty
                    simp at hmm
                    rcases hmm with e | e
                    · rw [e, b6'] at hC2; simp at hC2
                    · rw [e, hgb] at hC2; simp at hC2
                  have HB : ns.map NodeV.bare = (((decP ms j).drop 1).take j).map NodeV.bare := by
                    have := part_bare (by rw [← hNn.out, ← hM.out]; exact hml) hms.out
                    rw [← hNn.out] at this
                    exact this
                  have SM := tsame_any ns _ _ _ wr false hN5.q hU.q HB (fun h => by cases h)
                  try rw [← hNn.out] at SM
                  try rw [← hNn.out] at t9
                  clear HB hU hN5 hrow hms HWf2
                  go_wp2_with fail
                  refine SM.mono ?_
                  rintro e w10 ⟨rfl, p10⟩
                  go_wp2
                  go_ret
                  exact ⟨rfl, (p04.trans hPq).trans p10⟩
        · have hn : ¬ (ns.length : Int) = 0 := by rw [decide_eq_true_eq] at d1; omega
          go_wp2
          go_ret
          exact ⟨rfl, p03⟩
end Te
end Go.Proofs.YtigfcchblfnnbaaGreatDoor
