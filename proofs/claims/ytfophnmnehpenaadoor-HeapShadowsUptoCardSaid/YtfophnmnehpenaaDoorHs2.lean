/- Layer 8: the law HeapShadows, walked. -/
import Derived.Test.YtfophnmnehpenaaDoorHs1
namespace Go.Proofs.YtfophnmnehpenaaDoor
open Go Go.RowKit
set_option linter.all false
theorem at_drew {w : World} {b : Nat} {o : Obj} (h : w.heap[b]? = some o) : w.drew.heap[b]? = some o := h
set_option maxRecDepth 100000 in
set_option maxHeartbeats 16000000 in
theorem shadows_law (l : List UInt8) (x y : Va) (w : World) (hW : HpW w) (hx : x.wf) (hy : y.wf) (hs : l.length ≤ 1000000000) :
    Calls Tryd.prog 5 #[.string ⟨l.toArray⟩, x.v, y.v] w fun e w' => e = .returned (.bool true) ∧ Pur w w' := by
  obtain ⟨xk, xn, xt, xr⟩ := x
  obtain ⟨yk, yn, yt, yr⟩ := y
  have p0 : Pur w ((w.alloc (.cells #[.int .i64 xk, .float .f64 xn, .string ⟨xt.toArray⟩, .int .i64 xr] 33)).alloc (.cells #[.int .i64 yk, .float .f64 yn, .string ⟨yt.toArray⟩, .int .i64 yr] 33)) := ((Pur.refl w).alloc _).alloc _
  have AW := awake_any ((w.alloc (.cells #[.int .i64 xk, .float .f64 xn, .string ⟨xt.toArray⟩, .int .i64 xr] 33)).alloc (.cells #[.int .i64 yk, .float .f64 yn, .string ⟨yt.toArray⟩, .int .i64 yr] 33))
  simp only [Va.v, Va.cells]
  by_cases hg : l.length % 2 = 0 ∧ l.length ≤ 400
  case neg =>
    have hd : decide ((l.length : Int) % 2 = 0) = false ∨ ((l.length : Int) % 2 = 0 ∧ decide (400 < (l.length : Int)) = true) := by
      by_cases h2 : l.length % 2 = 0
      · exact .inr ⟨by omega, decide_eq_true (by omega)⟩
      · exact .inl (decide_eq_false (by omega))
    clear hs hg hx hy
    rcases hd with hd | ⟨h2, hd⟩
    · have hd' := of_decide_eq_false hd
      go_enter Tryd.func5, Tryd.ntmps5
      go_wp2_with fail
      go_wp2_with fail
      refine (AW).mono ?_
      rintro e w1 ⟨rfl, p1⟩
      go_wp2
      go_ret
      exact ⟨rfl, p0.trans p1⟩
    · go_enter Tryd.func5, Tryd.ntmps5
      go_wp2_with fail
      go_wp2_with fail
      refine (AW).mono ?_
      rintro e w1 ⟨rfl, p1⟩
      go_wp2
      go_ret
      exact ⟨rfl, p0.trans p1⟩
  have h2 : (l.length : Int) % 2 = 0 := by omega
  have hd : decide (400 < (l.length : Int)) = false := decide_eq_false (by omega)
  have hl4 : l.length ≤ 1000000 := by omega
  have N0 := fun w => new_st 20 w
  rw [sh_e0] at N0
  have SA := fun n w => rsame_self (Va.num' n) w
  have hB4 := bk_alloc (bk_new w (.cells (Va.mk xk xn xt xr).cells.toArray 33)) (.cells #[.int .i64 yk, .float .f64 yn, .string ⟨yt.toArray⟩, .int .i64 yr] 33)
  have hB5 := bk_new (w.alloc (.cells #[.int .i64 xk, .float .f64 xn, .string ⟨xt.toArray⟩, .int .i64 xr] 33)) (.cells (Va.mk yk yn yt yr).cells.toArray 33)
  rw [show (w.alloc (.cells #[.int .i64 xk, .float .f64 xn, .string ⟨xt.toArray⟩, .int .i64 xr] 33)).heap.size = w.heap.size + 1 by simp] at hB5
  clear hg hs
  go_enter Tryd.func5, Tryd.ntmps5
  go_wp2_with fail
  go_wp2_with fail
  refine (AW).mono ?_
  rintro e w1 ⟨rfl, p1⟩
  have C4 := bk_pur hB4 p1
  have C5 := bk_pur hB5 p1
  clear hB4 hB5 AW
  have D4 := st4_at (x := Va.num' 4607182418800017408) C4
  have C5' := st4_other (x := Va.num' 4607182418800017408) C5 (Nat.succ_ne_self _)
  have D5 := st4_at (x := Va.num' 4611686018427387904) C5'
  have E4 := st4_other (x := Va.num' 4611686018427387904) D4 (c := w.heap.size) (b := w.heap.size + 1) (by omega)
  have PP := st4_pur (b := w.heap.size + 1) (x := Va.num' 4611686018427387904) (st4_pur (b := w.heap.size) (x := Va.num' 4607182418800017408) (p0.trans p1) (Nat.le_refl _)) (by omega)
  have PQ := p0.trans p1
  obtain ⟨⟨f0, e0⟩, ⟨f1, e1⟩, ⟨f2, e2⟩, ⟨f3, e3⟩⟩ := st4_steps (x := Va.num' 4607182418800017408) C4
  obtain ⟨⟨g0, i0⟩, ⟨g1, i1⟩, ⟨g2, i2⟩, ⟨g3, i3⟩⟩ := st4_steps (x := Va.num' 4611686018427387904) C5'
  have a0 := (cells4 C4).1
  have b0 := (cells4 C5).1
  unfold st4 at D4 D5 E4 PP g0 g1 g2 g3 i0 i1 i2 i3
  simp only [Va.num'] at D4 D5 E4 PP g0 g1 g2 g3 i0 i1 i2 i3 f0 f1 f2 f3 e0 e1 e2 e3 a0 b0
  have wf1 : (Va.num' 4607182418800017408).wf := by constructor <;> decide
  have wf2 : (Va.num' 4611686018427387904).wf := by constructor <;> decide
  have H0 := Lib.hid (And.intro C4 C5)
  have H1 := Lib.hid (And.intro D4 (And.intro D5 (And.intro E4 PP)))
  clear C4 C5 C5' D4 D5 E4 PP
  have ways : (xk = 3 ∧ yk = 3) ∨ (xk = 3 ∧ decide (yk = 3) = false ∧ (yk != 3) = true) ∨ (decide (xk = 3) = false ∧ (xk != 3) = true) := by
    by_cases k1 : xk = 3
    · by_cases k2 : yk = 3
      · exact .inl ⟨k1, k2⟩
      · exact .inr (.inl ⟨k1, decide_eq_false k2, bne_iff_ne.2 k2⟩)
    · exact .inr (.inr ⟨decide_eq_false k1, bne_iff_ne.2 k1⟩)
  have HX : Hid (∃ A B : Va, Pur w ((((((((w1.setCell ⟨w.heap.size, 0, none⟩ (.int .i64 3)).setCell ⟨w.heap.size, 1, none⟩ (.float .f64 4607182418800017408)).setCell ⟨w.heap.size, 2, none⟩ (.string ⟨#[]⟩)).setCell ⟨w.heap.size, 3, none⟩ (.int .i64 0)).setCell ⟨w.heap.size + 1, 0, none⟩ (.int .i64 3)).setCell ⟨w.heap.size + 1, 1, none⟩ (.float .f64 4611686018427387904)).setCell ⟨w.heap.size + 1, 2, none⟩ (.string ⟨#[]⟩)).setCell ⟨w.heap.size + 1, 3, none⟩ (.int .i64 0)) ∧ A.wf ∧ B.wf ∧ ((((((((w1.setCell ⟨w.heap.size, 0, none⟩ (.int .i64 3)).setCell ⟨w.heap.size, 1, none⟩ (.float .f64 4607182418800017408)).setCell ⟨w.heap.size, 2, none⟩ (.string ⟨#[]⟩)).setCell ⟨w.heap.size, 3, none⟩ (.int .i64 0)).setCell ⟨w.heap.size + 1, 0, none⟩ (.int .i64 3)).setCell ⟨w.heap.size + 1, 1, none⟩ (.float .f64 4611686018427387904)).setCell ⟨w.heap.size + 1, 2, none⟩ (.string ⟨#[]⟩)).setCell ⟨w.heap.size + 1, 3, none⟩ (.int .i64 0)).heap[w.heap.size]? = some (.cells A.cells.toArray 33 (0, 0)) ∧ ((((((((w1.setCell ⟨w.heap.size, 0, none⟩ (.int .i64 3)).setCell ⟨w.heap.size, 1, none⟩ (.float .f64 4607182418800017408)).setCell ⟨w.heap.size, 2, none⟩ (.string ⟨#[]⟩)).setCell ⟨w.heap.size, 3, none⟩ (.int .i64 0)).setCell ⟨w.heap.size + 1, 0, none⟩ (.int .i64 3)).setCell ⟨w.heap.size + 1, 1, none⟩ (.float .f64 4611686018427387904)).setCell ⟨w.heap.size + 1, 2, none⟩ (.string ⟨#[]⟩)).setCell ⟨w.heap.size + 1, 3, none⟩ (.int .i64 0)).heap[w.heap.size + 1]? = some (.cells B.cells.toArray 33 (0, 0))) := Lib.hid ⟨Va.num' 4607182418800017408, Va.num' 4611686018427387904, H1.out.2.2.2, wf1, wf2, H1.out.2.2.1, H1.out.2.1⟩
  clear H1
  go_upto_region 5 with (fail)
  go_cut [40] from 24 to 43 (fun t wx => ∃ b, t = .bool b ∧ wx = w1)
  case first =>
    clear H0 HX
    rcases ways with ⟨rfl, rfl⟩ | ⟨rfl, d1, d2⟩ | ⟨d1, d2⟩
    · go_wp2
      go_meet
      exact ⟨_, rfl, rfl⟩
    · have k1 := of_decide_eq_false d1
      go_wp2
      go_meet
      exact ⟨_, rfl, rfl⟩
    · have k1 := of_decide_eq_false d1
      go_wp2
      go_meet
      exact ⟨_, rfl, rfl⟩
  case rest =>
    obtain ⟨b, rfl, rfl⟩ := hcut
    clear ways a0 b0
    go_upto_if 40 with (fail)
    go_cut [] from 41 to 43 (fun wx => ∃ A B : Va, Pur w wx ∧ A.wf ∧ B.wf ∧ wx.heap[w.heap.size]? = some (.cells A.cells.toArray 33 (0, 0)) ∧ wx.heap[w.heap.size + 1]? = some (.cells B.cells.toArray 33 (0, 0)))
    case first =>
      rcases b with _ | _
      · go_wp2
        go_meet
        exact ⟨_, _, PQ, hx, hy, H0.out.1, H0.out.2⟩
      · go_wp2
        go_meet
        exact HX.out
    case rest =>
    obtain ⟨⟨ak, an, at', ar⟩, ⟨bk, bn, bt, br⟩, PX, hA, hB, X4, X5⟩ := hcut
    clear H0 HX PQ e0 e1 e2 e3 f0 f1 f2 f3 g0 g1 g2 g3 i0 i1 i2 i3 hx hy wf1 wf2 p1 p0
    go_upto_region 7 with (fail)
    go_cut [] from 43 to 49 (fun wq => Pur w wq ∧ wq.heap[w.heap.size]? = some (.cells (Va.num' an).cells.toArray 33 (0, 0)) ∧ wq.heap[w.heap.size + 1]? = some (.cells (Va.num' bn).cells.toArray 33 (0, 0)))
    case first =>
      have D4 := st4_at (x := Va.num' an) X4
      have C5' := st4_other (x := Va.num' an) X5 (Nat.succ_ne_self _)
      have D5 := st4_at (x := Va.num' bn) C5'
      have E4 := st4_other (x := Va.num' bn) D4 (c := w.heap.size) (b := w.heap.size + 1) (by omega)
      have PP := st4_pur (b := w.heap.size + 1) (x := Va.num' bn) (st4_pur (b := w.heap.size) (x := Va.num' an) PX (Nat.le_refl _)) (by omega)
      obtain ⟨⟨f0, e0⟩, ⟨f1, e1⟩, ⟨f2, e2⟩, ⟨f3, e3⟩⟩ := st4_steps (x := Va.num' an) X4
      obtain ⟨⟨g0, i0⟩, ⟨g1, i1⟩, ⟨g2, i2⟩, ⟨g3, i3⟩⟩ := st4_steps (x := Va.num' bn) C5'
      have b1 := (cells4 X5).2.1
      have a1 := (cells4 X4).2.1
      have b1' := (cells4 C5').2.1
      unfold st4 at D4 D5 E4 PP g0 g1 g2 g3 i0 i1 i2 i3 b1'
      simp only [Va.num'] at D4 D5 E4 PP g0 g1 g2 g3 i0 i1 i2 i3 f0 f1 f2 f3 e0 e1 e2 e3 b1 b1' a1
      have H1 := Lib.hid (And.intro (drew_pur PP) (And.intro (at_drew E4) (at_drew D5)))
      clear D4 C5' D5 E4 PP X4 X5 PX
      go_region
      all_goals
        go_wp2
        go_meet
        exact ⟨H1.out.1, H1.out.2.1, H1.out.2.2⟩
    case rest =>
      obtain ⟨PQ, Y4, Y5⟩ := hcut
      have wfa : (Va.num' an).wf := ⟨hA.1, by simp [Va.num']⟩
      have wfb : (Va.num' bn).wf := ⟨hB.1, by simp [Va.num']⟩
      clear X4 X5 PX hA hB
      go_wp2_with fail
      refine (N0 _).mono ?_
      rintro e w2 ⟨hh, rfl, A2⟩
      clear N0
      have R := plain_st A2 (-1)
      rw [sh_e1] at R
      clear A2
      go_wp2_with fail
      refine R.mono ?_
      rintro e w3 ⟨rfl, A3, -⟩
      clear R
      have R := plain_st A3 0
      rw [sh_e2] at R
      clear A3
      go_wp2_with fail
      refine R.mono ?_
      rintro e w4 ⟨rfl, A4, -⟩
      clear R
      have R := plain_st A4 1
      rw [sh_e3] at R
      clear A4
      go_wp2_with fail
      refine R.mono ?_
      rintro e w5 ⟨rfl, A5, -⟩
      clear R
      have R := put_st A5 0 l (Va.num' an) wfa hl4
      rw [sh_e4] at R
      simp only [Va.num', Va.zero, Va.v, Va.cells] at R
      obtain ⟨c0, c1, c2, c3⟩ := cells4 (bk_pur Y4 A5.pur)
      simp only [Va.num'] at c0 c1 c2 c3
      clear A5
      go_wp2_with fail
      refine R.mono ?_
      rintro e w6 ⟨rfl, A6, -⟩
      clear R c0 c1 c2 c3
      have R := get_st A6 2 l hl4
      rw [sh_e5] at R
      simp only [Va.num', Va.zero, Va.v, Va.cells] at R
      go_wp2_with fail
      refine R.mono ?_
      rintro e w7 ⟨rfl, h7⟩
      have A7 := (A6.pure (h7.alloc (.cells #[.int .i64 3, .float .f64 an, .string ⟨#[]⟩, .int .i64 0] 33))).1
      have B14 : (w7.alloc (.cells #[.int .i64 3, .float .f64 an, .string ⟨#[]⟩, .int .i64 0] 33)).heap[w7.heap.size]? = some (.cells (Va.num' an).cells.toArray 33 (0, 0)) := bk_new _ _
      clear R A6 h7
      have R := own_st A7 2 l hl4
      rw [sh_e6] at R
      simp only [Va.num', Va.zero, Va.v, Va.cells] at R
      go_wp2_with fail
      refine R.mono ?_
      rintro e w8 ⟨rfl, h8⟩
      have A8 := (A7.pure (h8.alloc (.cells #[.int .i64 0, .float .f64 0, .string ⟨#[]⟩, .int .i64 0] 33))).1
      have B14' := bk_alloc (bk_pur B14 h8) (.cells #[.int .i64 0, .float .f64 0, .string ⟨#[]⟩, .int .i64 0] 33)
      obtain ⟨c0, c1, c2, c3⟩ := cells4 B14'
      simp only [Va.num'] at c0 c1 c2 c3
      obtain ⟨d0, d1, d2, d3⟩ := cells4 (bk_pur Y4 A8.pur)
      simp only [Va.num'] at d0 d1 d2 d3
      have S := SA an (w8.alloc (.cells #[.int .i64 0, .float .f64 0, .string ⟨#[]⟩, .int .i64 0] 33))
      simp only [Va.num', Va.v, Va.cells] at S
      clear R A7 h8 B14 B14'
      go_wp2_with fail
      refine S.mono ?_
      rintro e w9 ⟨rfl, h9⟩
      have A9 := (A8.pure h9).1
      clear S c0 c1 c2 c3 d0 d1 d2 d3 A8 h9
      have R := put_st A9 1 l (Va.num' bn) wfb hl4
      rw [sh_e7] at R
      simp only [Va.num', Va.zero, Va.v, Va.cells] at R
      obtain ⟨c0, c1, c2, c3⟩ := cells4 (bk_pur Y5 A9.pur)
      simp only [Va.num'] at c0 c1 c2 c3
      clear A9
      go_wp2_with fail
      refine R.mono ?_
      rintro e w10 ⟨rfl, A10, -⟩
      clear R c0 c1 c2 c3
      have R := get_st A10 2 l hl4
      rw [sh_e8] at R
      simp only [Va.num', Va.zero, Va.v, Va.cells] at R
      go_wp2_with fail
      refine R.mono ?_
      rintro e w11 ⟨rfl, h11⟩
      have A11 := (A10.pure (h11.alloc (.cells #[.int .i64 3, .float .f64 bn, .string ⟨#[]⟩, .int .i64 0] 33))).1
      have B18 : (w11.alloc (.cells #[.int .i64 3, .float .f64 bn, .string ⟨#[]⟩, .int .i64 0] 33)).heap[w11.heap.size]? = some (.cells (Va.num' bn).cells.toArray 33 (0, 0)) := bk_new _ _
      clear R A10 h11
      have R := get_st A11 0 l hl4
      rw [sh_e9] at R
      simp only [Va.num', Va.zero, Va.v, Va.cells] at R
      go_wp2_with fail
      refine R.mono ?_
      rintro e w12 ⟨rfl, h12⟩
      have A12 := (A11.pure (h12.alloc (.cells #[.int .i64 3, .float .f64 an, .string ⟨#[]⟩, .int .i64 0] 33))).1
      have B19 : (w12.alloc (.cells #[.int .i64 3, .float .f64 an, .string ⟨#[]⟩, .int .i64 0] 33)).heap[w12.heap.size]? = some (.cells (Va.num' an).cells.toArray 33 (0, 0)) := bk_new _ _
      have B18' := bk_alloc (bk_pur B18 h12) (.cells #[.int .i64 3, .float .f64 an, .string ⟨#[]⟩, .int .i64 0] 33)
      obtain ⟨c0, c1, c2, c3⟩ := cells4 B18'
      simp only [Va.num'] at c0 c1 c2 c3
      obtain ⟨d0, d1, d2, d3⟩ := cells4 (bk_pur Y5 A12.pur)
      simp only [Va.num'] at d0 d1 d2 d3
      have S := SA bn (w12.alloc (.cells #[.int .i64 3, .float .f64 an, .string ⟨#[]⟩, .int .i64 0] 33))
      simp only [Va.num', Va.v, Va.cells] at S
      clear R A11 h12 B18 B18'
      go_wp2_with fail
      refine S.mono ?_
      rintro e w13 ⟨rfl, h13⟩
      have A13 := (A12.pure h13).1
      clear S c0 c1 c2 c3 d0 d1 d2 d3 A12
      obtain ⟨c0, c1, c2, c3⟩ := cells4 (bk_pur B19 h13)
      simp only [Va.num'] at c0 c1 c2 c3
      obtain ⟨d0, d1, d2, d3⟩ := cells4 (bk_pur Y4 A13.pur)
      simp only [Va.num'] at d0 d1 d2 d3
      have S := SA an w13
      simp only [Va.num', Va.v, Va.cells] at S
      clear h13 B19
      go_wp2_with fail
      refine S.mono ?_
      rintro e w14 ⟨rfl, h14⟩
      have A14 := (A13.pure h14).1
      clear S c0 c1 c2 c3 d0 d1 d2 d3 A13 h14
      have R := drop_st A14 1 l hl4
      rw [sh_e10] at R
      clear A14
      go_wp2_with fail
      refine R.mono ?_
      rintro e w15 ⟨rfl, A15, -⟩
      clear R
      have R := get_st A15 2 l hl4
      rw [sh_e11] at R
      simp only [Va.num', Va.zero, Va.v, Va.cells] at R
      go_wp2_with fail
      refine R.mono ?_
      rintro e w16 ⟨rfl, h16⟩
      have A16 := (A15.pure (h16.alloc (.cells #[.int .i64 3, .float .f64 an, .string ⟨#[]⟩, .int .i64 0] 33))).1
      have B21 : (w16.alloc (.cells #[.int .i64 3, .float .f64 an, .string ⟨#[]⟩, .int .i64 0] 33)).heap[w16.heap.size]? = some (.cells (Va.num' an).cells.toArray 33 (0, 0)) := bk_new _ _
      obtain ⟨c0, c1, c2, c3⟩ := cells4 B21
      simp only [Va.num'] at c0 c1 c2 c3
      obtain ⟨d0, d1, d2, d3⟩ := cells4 (bk_pur Y4 A16.pur)
      simp only [Va.num'] at d0 d1 d2 d3
      have S := SA an (w16.alloc (.cells #[.int .i64 3, .float .f64 an, .string ⟨#[]⟩, .int .i64 0] 33))
      simp only [Va.num', Va.v, Va.cells] at S
      clear R A15 h16 B21
      go_wp2_with fail
      refine S.mono ?_
      rintro e w17 ⟨rfl, h17⟩
      have A17 := (A16.pure h17).1
      clear S c0 c1 c2 c3 d0 d1 d2 d3 A16 h17
      have K := keys_st A17 (hW.pur (PQ.trans A17.pur)) 2
      rw [sh_k2] at K
      go_wp2_with fail
      refine K.mono ?_
      rintro e w18 ⟨v18, rfl, h18, r18⟩
      have A18 := (A17.pure h18).1
      obtain ⟨a18, c18, rfl⟩ := row_shape r18
      clear K r18 A17 h18
      have K := keys_st A18 (hW.pur (PQ.trans A18.pur)) 0
      rw [sh_k0] at K
      go_wp2_with fail
      refine K.mono ?_
      rintro e w19 ⟨v19, rfl, h19, r19⟩
      have P19 := PQ.trans (A18.pur.trans h19)
      obtain ⟨a19, c19, rfl⟩ := row_shape r19
      clear K r19 A18 h19
      go_wp2
      go_ret
      exact ⟨rfl, P19⟩
end Go.Proofs.YtfophnmnehpenaaDoor
