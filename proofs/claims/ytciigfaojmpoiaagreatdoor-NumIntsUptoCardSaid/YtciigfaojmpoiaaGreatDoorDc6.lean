/- The library's decimal as a float's bits. -/
import Derived.Test.YtciigfaojmpoiaaGreatDoorDcZ
import Derived.Test.YtciigfaojmpoiaaGreatDoorRfX
namespace Go.Proofs.YtciigfaojmpoiaaGreatDoor
open Go Go.RowKit
set_option linter.all false
namespace Dc
/-- the library's small table of powers, as it lies -/
structure PWT (w : World) : Prop where
  sl : ∃ g o c, w.cell? ⟨13, 0, none⟩ = some (.slice (some ⟨g, o, none⟩) 9 c) ∧ ∀ k, k < 9 → w.cell? ⟨g, o + k, none⟩ = some (.int .i64 ((powt.getD k 0 : Nat) : Int))
theorem PWT.pur {w w' : World} (h : PWT w) (hp : Pur w w') : PWT w' := by
  obtain ⟨g, o, c, h1, h2⟩ := h.sl
  exact ⟨g, o, c, cell_pur h1 hp, fun k hk => cell_pur (h2 k hk) hp⟩
/-- the variables that the slow way asks -/
structure DE (w : World) : Prop where
  f : Rf.F64 w
  lc : LCT w
  pw : PWT w
theorem DE.pur {w w' : World} (h : DE w) (hp : Pur w w') : DE w' := ⟨h.f.pur hp, h.lc.pur hp, h.pw.pur hp⟩
/-- on the way down -/
def QD (b : Nat) (w : World) (A : Dec × Int) (f : Nat) (v : Value) (wr : World) : Prop :=
  ∃ (y : Dec) (e : Int), v = .int .i64 e ∧ Ok y ∧ DW wr b y ∧ Chg [b] w wr ∧ near y ≤ (f : Int) ∧ f ≤ 4000 ∧ -24000 ≤ y.dp ∧ y.dp ≤ 310 ∧ 0 ≤ e ∧ e ≤ 27 * (4000 - (f : Int)) ∧ Hid (A = fdown f y e)
/-- on the way up -/
def QU (b : Nat) (w : World) (A : Dec × Int) (f : Nat) (v : Value) (wr : World) : Prop :=
  ∃ (y : Dec) (e : Int), v = .int .i64 e ∧ Ok y ∧ DW wr b y ∧ Chg [b] w wr ∧ 53 - near y ≤ (f : Int) ∧ f ≤ 300000 ∧ -24000 ≤ y.dp ∧ y.dp ≤ 600 ∧ -27 * (300000 - (f : Int)) ≤ e ∧ e ≤ 200000 ∧ Hid (A = fup f y e)
set_option maxRecDepth 100000 in
set_option maxHeartbeats 64000000 in
theorem bits_any {w0 w : World} {b : Nat} {x : Dec} (E : DE w0) (hp : Pur w0 w) (hb : w0.heap.size ≤ b) (h : DW w b x) (ok : Ok x) (m0 : -10000000 ≤ x.dp) (m1 : x.dp ≤ 10000000) :
    Calls Tryz.prog 156 #[.pointer (some ⟨b, 0, none⟩), .pointer (some ⟨9, 0, none⟩)] w fun e w' => e = .returned (.tuple #[.int .u64 ((fbits x).1 : Int), .bool (fbits x).2]) ∧ Chg [b] w w' := by
  have hnd := ok.pos
  have c0 := h.cnd
  have cp := h.cdp
  have d0 : ((x.nd : Int) == 0) = false := by rw [beq_eq_false_iff_ne]; omega
  have z2 := (E.f.pur hp).c2
  by_cases g1 : 310 < x.dp
  · have d1 : decide ((310 : Int) < x.dp) = true := by rw [decide_eq_true_eq]; exact g1
    have HN := Lib.hid (show fbits x = (9218868437227405312, true) by unfold fbits; rw [if_pos g1])
    clear g1 m0 m1
    go_enter Tryz.func156, Tryz.ntmps156
    go_wp2
    refine wp_scope_two rfl rfl ?_
    intro G0 G1 hG0 hG1
    have HG0 := Lib.hid hG0
    have HG1 := Lib.hid hG1
    clear hG0 hG1
    go_wp2
    go_step3
    simp only [Exit.inBlock, Exit.then, Exit.two]
    refine .inr ⟨trivial, HG1.out _ _ ?_⟩
    clear HG0 HG1
    have y1' := fun y : PW w => (E.f.pur (Pur.trans hp y.pur)).c1
    have y2' := fun y : PW w => (E.f.pur (Pur.trans hp y.pur)).c2
    go_wp2
    refine wp_region_pur (by kernel_rfl) (by kernel_rfl) ?_
    repeat (go_big_quiet_step (fail))
    refine wpQuiet_nil ?_
    intro w7 h7
    clear y1' y2'
    have hp7 := Pur.trans hp h7
    have hW7 := h.pur h7
    have hC7 := Chg.pur (Chg.refl [b] w) h7
    go_wp2
    go_step3
    have z0 := (E.f.pur hp7).c0
    have z0' := fun y : PW w7 => (E.f.pur (Pur.trans hp7 y.pur)).c0
    have z1' := fun y : PW w7 => (E.f.pur (Pur.trans hp7 y.pur)).c1
    have z2' := fun y : PW w7 => (E.f.pur (Pur.trans hp7 y.pur)).c2

    have b0 : bits .and .u64 0 4503599627370495 = 0 := by decide
    have b1 : bits .and .i64 2047 2047 = 2047 := by decide
    have b2 : bits .or .u64 0 9218868437227405312 = 9218868437227405312 := by decide
    go_wp2
    refine wp_region_pur (by kernel_rfl) (by kernel_rfl) ?_
    repeat (go_big_quiet_step (fail))
    refine wpQuiet_nil ?_
    intro wo ho
    have cg8 := (hW7.pur ho).cneg
    go_wp2
    simp only [Exit.noGoto]
    go_ret2
    rw [HN.out]
    exact ⟨rfl, Chg.pur hC7 ho⟩
  have d1 : decide ((310 : Int) < x.dp) = false := by rw [decide_eq_false_iff_not]; exact g1
  by_cases g2 : x.dp < -330
  · have d2 : decide (x.dp < -330) = true := by rw [decide_eq_true_eq]; exact g2
    have HN := Lib.hid (show fbits x = (0, false) by unfold fbits; rw [if_neg g1, if_pos g2])
    clear g1 g2 m0 m1
    go_enter Tryz.func156, Tryz.ntmps156
    go_wp2
    refine wp_scope_two rfl rfl ?_
    intro G0 G1 hG0 hG1
    have HG0 := Lib.hid hG0
    have HG1 := Lib.hid hG1
    clear hG0 hG1
    go_wp2
    go_step3
    simp only [Exit.inBlock, Exit.then, Exit.two]
    refine .inl ⟨trivial, HG0.out _ _ ?_⟩
    clear HG0 HG1
    have z0 := (E.f.pur hp).c0
    have z0' := fun y : PW w => (E.f.pur (Pur.trans hp y.pur)).c0
    have z1' := fun y : PW w => (E.f.pur (Pur.trans hp y.pur)).c1
    have z2' := fun y : PW w => (E.f.pur (Pur.trans hp y.pur)).c2

    have b0 : bits .and .u64 0 4503599627370495 = 0 := by decide
    have b1 : bits .and .i64 0 2047 = 0 := by decide
    have b2 : bits .or .u64 0 0 = 0 := by decide
    go_wp2
    refine wp_region_pur (by kernel_rfl) (by kernel_rfl) ?_
    repeat (go_big_quiet_step (fail))
    refine wpQuiet_nil ?_
    intro wo ho
    have cg8 := (h.pur ho).cneg
    go_wp2
    simp only [Exit.noGoto]
    go_ret2
    rw [HN.out]
    exact ⟨rfl, Chg.pur (Chg.refl [b] w) ho⟩
  have d2 : decide (x.dp < -330) = false := by rw [decide_eq_false_iff_not]; exact g2
  have d57 := ok.v 0 hnd
  obtain ⟨A, hA⟩ : ∃ A, fdown 4000 x 0 = A := ⟨_, rfl⟩
  obtain ⟨U, hU⟩ : ∃ U, fup 300000 A.1 A.2 = U := ⟨_, rfl⟩
  have HN := Lib.hid (show fbits x = (let c : Dec × Int := if U.2 - 1 < -1022 then (shr (-1022 - (U.2 - 1)).toNat U.1, -1022) else (U.1, U.2 - 1)
      if 2047 ≤ c.2 + 1023 then (9218868437227405312, true) else packB (rint (shl 53 c.1)) c.2) by
    unfold fbits; rw [if_neg g1, if_neg g2]; simp only [hA, hU])
  have HA := Lib.hid (show A = fdown 4000 x 0 from hA.symm)
  have HU := Lib.hid (show U = fup 300000 A.1 A.2 from hU.symm)
  generalize fbits x = X at *
  clear hA hU z2
  go_enter Tryz.func156, Tryz.ntmps156
  go_wp2
  refine wp_scope_two rfl rfl ?_
  intro G0 G1 hG0 hG1
  have HG0 := Lib.hid hG0
  have HG1 := Lib.hid hG1
  clear hG0 hG1
  go_upto_block 0 with (fail)
  go_cut [6] from 35 to 60 (fun v wx => v = .int .i64 A.2 ∧ Ok A.1 ∧ DW wx b A.1 ∧ Chg [b] w wx ∧ -24000 ≤ A.1.dp ∧ A.1.dp ≤ 310 ∧ 0 ≤ A.2 ∧ A.2 ≤ 110000)
  case first =>
    clear HN HU HG0 HG1
    go_wp2_with fail
    go_loopw [6] (fun v wr => ∃ f, QD b w A f v wr) (fun v wr => least fun f => QD b w A f v wr)
    case atStart => exact ⟨4000, x, 0, rfl, ok, h, Chg.refl _ _, by unfold near; omega, by omega, by omega, by omega, by omega, by omega, HA⟩
    case round =>
      obtain ⟨F, ⟨y, e, rfl, oy, hy, hc, n1, f4, y1, y2, e0, e1, HS⟩, hF⟩ := least_rel hrel
      clear HA h ok c0 cp hnd d0 d1 d2 d57 g1 g2 m0 m1
      have hpy : Pur w0 wr := pur_chg hp hc hb
      have cp := hy.cdp
      by_cases g : 0 < y.dp
      · have t1 : decide ((0 : Int) < y.dp) = true := by rw [decide_eq_true_eq]; exact g
        have ny : 49 ≤ near y := by unfold near; have := oy.d0; omega
        obtain ⟨f, rfl⟩ : ∃ f, F = f + 1 := ⟨F - 1, by omega⟩
        obtain ⟨P, hP⟩ := Int.eq_ofNat_of_zero_le (show 0 ≤ y.dp by omega)
        obtain ⟨S, hS⟩ : ∃ S, stp P = S := ⟨_, rfl⟩
        have hSl := stp_le P
        rw [hS] at hSl
        have HS2 := Lib.hid (show A = fdown f (shr S y) (e + (S : Int)) by rw [HS.out, fdown, if_pos g, hP, Int.toNat_natCast, hS])
        have hSd : S = if 9 ≤ P then 27 else powt.getD P 0 := by rw [← hS]; rfl
        have SR := fun (wz : World) (hz : Pur wr wz) => shr_any (hy.pur hz) oy hSl.1 (by omega) (by omega) (by omega)
        obtain ⟨s1, s2, s3, s4⟩ := shr_says S oy hSl.1
        generalize shr S y = z at *
        have cp' := fun v : PW wr => (hy.pur v.pur).cdp
        obtain ⟨g9, go9, gc9, k1, k2⟩ := (E.pw.pur hpy).sl
        have k1' := fun v : PW wr => cell_pur k1 v.pur
        have wn : IntKind.i64.wrap (-(S : Int)) = -(S : Int) := IntWalk.i64_in _ (by omega)
        have we : IntKind.i64.wrap (e + (S : Int)) = e + (S : Int) := IntWalk.i64_in _ (by omega)
        have tn : decide ((9 : Int) ≤ y.dp) = decide (9 ≤ P) := by rw [decide_eq_decide]; omega
        rw [hP] at cp cp' t1 tn
        have b1 : near z ≤ (f : Int) := by omega
        have b2 : e + (S : Int) ≤ 27 * (4000 - (f : Int)) := by omega
        have b3 : -24000 ≤ z.dp := by omega
        have b4 : z.dp ≤ 310 := by omega
        have b5 : 0 ≤ e + (S : Int) := by omega
        have b6 : f ≤ 4000 := by omega
        have P0 : (0 : Int) ≤ (P : Int) := by omega
        have Pp : 0 < P := by omega
        clear HS n1 y1 y2 s2 s3 s4 hS ny e0 e1 g
        go_upto_region 13 with (fail)
        go_cut [46] from 40 to 46 (fun t wx => t = .bool (decide (9 ≤ P)) ∧ Pur wr wx)
        case first =>
          clear HS2 SR
          go_wp2_with fail
          refine wp_region_pur (by kernel_rfl) (by kernel_rfl) ?_
          repeat (go_big_quiet_step (fail))
          refine wpQuiet_nil ?_
          intro wq hq
          go_wp2
          go_meet
          exact ⟨by simp, hq⟩
        case rest =>
          obtain ⟨rfl, q1⟩ := hcut
          go_upto_if 46 with (fail)
          go_cut [8] from 47 to 53 (fun t wx => t = .int .i64 (S : Int) ∧ Pur wr wx)
          case first =>
            clear HS2 SR
            by_cases p9 : 9 ≤ P
            · have t9 : decide (9 ≤ P) = true := by rw [decide_eq_true_eq]; exact p9
              have HSd := Lib.hid (hSd.trans (if_pos p9))
              clear hSd tn
              go_wp2
              go_meet
              rw [HSd.out]
              exact ⟨rfl, q1⟩
            · have t9 : decide (9 ≤ P) = false := by rw [decide_eq_false_iff_not]; exact p9
              have HSd := Lib.hid (hSd.trans (if_neg p9))
              have P9 : (P : Int) < 9 := by omega
              have kP := k2 P (by omega)
              rw [← HSd.out] at kP
              skip
              have kP' := fun v : PW _ => cell_pur kP (q1.trans v.pur)
              have k1'' := fun v : PW _ => cell_pur k1 (q1.trans v.pur)
              have cp'' := fun v : PW _ => (hy.pur (q1.trans v.pur)).cdp
              rw [hP] at cp''
              clear hSd tn k1' cp' k2
              go_wp2
              refine wp_region_pur (by kernel_rfl) (by kernel_rfl) ?_
              repeat (go_big_quiet_step (fail))
              refine wpQuiet_nil ?_
              intro wq hq
              go_wp2
              go_meet
              exact ⟨rfl, q1.trans hq⟩
          case rest =>
            clear q1
            obtain ⟨rfl, q1⟩ := hcut
            have SR1 := SR _ q1
            clear SR k1' cp' k2 tn hSd
            go_wp2_with fail
            refine SR1.mono ?_
            rintro e9 w9 ⟨rfl, r1, r2⟩
            have hc2 := (hc.pur q1).trans r2
            go_wp2
            go_roundw
            case rel => exact ⟨f, z, _, rfl, s1, r1, hc2, b1, b6, b3, b4, b5, b2, HS2⟩
            case measure => exact Nat.lt_of_lt_of_le (Nat.lt_of_le_of_lt (least_le (f := f) ⟨z, _, rfl, s1, r1, hc2, b1, b6, b3, b4, b5, b2, HS2⟩) (Nat.lt_succ_self f)) hF.out
      · have t1 : decide ((0 : Int) < y.dp) = false := by rw [decide_eq_false_iff_not]; exact g
        have HN := Lib.hid (show A = (y, e) by
          rw [HS.out]
          cases F with
          | zero => rfl
          | succ f => rw [fdown, if_neg g])
        have b2 : e ≤ 110000 := by omega
        clear HS n1 g e1
        go_wp2
        go_meet
        rw [HN.out]
        exact ⟨rfl, oy, hy, hc, y1, y2, e0, b2⟩
  case rest =>
    obtain ⟨rfl, oA, hyA, hcA, a1, a2, a3, a4⟩ := hcut
    clear HA h ok c0 cp hnd d0 d1 d2 d57 g1 g2 m0 m1
    go_upto_block 2 with (fail)
    go_cut [6] from 61 to 102 (fun v wx => v = .int .i64 U.2 ∧ Ok U.1 ∧ DW wx b U.1 ∧ Chg [b] w wx ∧ -24000 ≤ U.1.dp ∧ U.1.dp ≤ 600 ∧ -10000000 ≤ U.2 ∧ U.2 ≤ 200000)
    case first =>
      clear HN HG0 HG1
      go_wp2_with fail
      go_loopw [6] (fun v wr => ∃ f, QU b w U f v wr) (fun v wr => least fun f => QU b w U f v wr)
      case atStart => exact ⟨300000, A.1, A.2, rfl, oA, hyA, hcA, by have := oA.d0; unfold near; omega, by omega, by omega, by omega, by omega, by omega, HU⟩
      case round =>
        obtain ⟨F, ⟨y, e, rfl, oy, hy, hc, n1, f4, y1, y2, e0, e1, HS⟩, hF⟩ := least_rel hrel
        clear HU oA hyA hcA a1 a2 a3 a4
        have hpy : Pur w0 wr := pur_chg hp hc hb
        have cp := hy.cdp
        have cd := hy.cd (i := 0) (by decide)
        have HB := hy.B.2 0
        obtain ⟨lw, hlw⟩ : ∃ lw, low y = lw := ⟨_, rfl⟩
        have hld : lw = (decide (y.dp < 0) || (decide (y.dp = 0) && decide (dg y.D 0 < 53))) := by rw [← hlw]; rfl
        have dd : ((y.dp == 0) : Bool) = decide (y.dp = 0) := by rw [Bool.eq_iff_iff, beq_iff_eq, decide_eq_true_eq]
        rcases lw with _ | _
        · have HN := Lib.hid (show U = (y, e) by
            rw [HS.out]
            cases F with
            | zero => rfl
            | succ f => rw [fup, hlw]; rfl)
          have l1 : ¬ y.dp < 0 := fun h => by rw [decide_eq_true h] at hld; simp at hld
          have t1 : decide (y.dp < 0) = false := by rw [decide_eq_false_iff_not]; exact l1
          have b2 : -10000000 ≤ e := by omega
          by_cases l2 : y.dp = 0
          · have t2 : (y.dp == 0) = true := by rw [beq_iff_eq]; exact l2
            have l3 : ¬ dg y.D 0 < 53 := fun h => by rw [decide_eq_true l2, decide_eq_true h] at hld; simp at hld
            have t3 : decide ((dg y.D 0 : Int) < 53) = false := by rw [decide_eq_false_iff_not]; omega
            have L2 := Lib.hid l2
            clear HS n1 hld dd hlw e0 l1 l2
            go_wp2
            go_meet
            rw [HN.out]
            exact ⟨rfl, oy, hy, hc, y1, y2, b2, e1⟩
          · have t2 : (y.dp == 0) = false := by rw [beq_eq_false_iff_ne]; exact l2
            clear HS n1 hld dd hlw e0 l1
            go_wp2
            go_meet
            rw [HN.out]
            exact ⟨rfl, oy, hy, hc, y1, y2, b2, e1⟩
        · -- too low yet
          have ld : y.dp < 0 ∨ (y.dp = 0 ∧ dg y.D 0 < 53) := by
            have := hld.symm
            rw [Bool.or_eq_true, Bool.and_eq_true, decide_eq_true_eq, decide_eq_true_eq, decide_eq_true_eq] at this
            exact this
          have nl : near y ≤ 52 := by unfold near; have := oy.v 0 oy.pos; omega
          obtain ⟨f, rfl⟩ : ∃ f, F = f + 1 := ⟨F - 1, by omega⟩
          obtain ⟨P, hP⟩ := Int.eq_ofNat_of_zero_le (show 0 ≤ -y.dp by omega)
          have hPy : y.dp = -(P : Int) := by omega
          obtain ⟨S, hS⟩ : ∃ S, stp P = S := ⟨_, rfl⟩
          have hSl := stp_le P
          rw [hS] at hSl
          have HS2 := Lib.hid (show U = fup f (shl S y) (e - (S : Int)) by rw [HS.out, fup, hlw, if_pos rfl, hP, Int.toNat_natCast, hS])
          have hSd : S = if 9 ≤ P then 27 else powt.getD P 0 := by rw [← hS]; rfl
          have SR := fun (wz : World) (hz : Pur wr wz) => shl_any (E.lc) (hpy.trans hz) hb (hy.pur hz) oy hSl.1 (by omega) (by omega) (by omega)
          obtain ⟨s1, s2, s3, s4⟩ := shl_says S oy hSl.1
          generalize shl S y = z at *
          have cp' := fun v : PW wr => (hy.pur v.pur).cdp
          obtain ⟨g9, go9, gc9, k1, k2⟩ := (E.pw.pur hpy).sl
          have k1' := fun v : PW wr => cell_pur k1 v.pur
          have we : IntKind.i64.wrap (e - (S : Int)) = e - (S : Int) := IntWalk.i64_in _ (by omega)
          have wn : IntKind.i64.wrap (-y.dp) = (P : Int) := by rw [hP]; exact IntWalk.i64_in _ (by omega)
          have tn : decide ((9 : Int) ≤ (P : Int)) = decide (9 ≤ P) := by rw [decide_eq_decide]; omega
          have b1 : 53 - near z ≤ (f : Int) := by omega
          have b2 : -27 * (300000 - (f : Int)) ≤ e - (S : Int) := by omega
          have b3 : -24000 ≤ z.dp := by omega
          have b4 : z.dp ≤ 600 := by omega
          have b5 : e - (S : Int) ≤ 200000 := by omega
          have b6 : f ≤ 300000 := by omega
          have P0 : (0 : Int) ≤ (P : Int) := by omega
          have w1 : Pur wr wr := Pur.refl wr
          clear HS n1 y1 y2 s2 s3 s4 hS nl e0 e1 hlw hld hP hPy
          go_upto_region 18 with (fail)
          go_cut [80] from 61 to 80 (fun t wx => t = .bool true ∧ wr = wx)
          case first =>
            clear HS2 SR
            rcases ld with l1 | ⟨l1, l2⟩
            · have t1 : decide (y.dp < 0) = true := by rw [decide_eq_true_eq]; exact l1
              clear dd l1
              go_wp2
              go_meet
              exact ⟨by first | rfl | rw [t3], rfl⟩
            · have t1 : decide (y.dp < 0) = false := by rw [decide_eq_false_iff_not]; omega
              have t2 : (y.dp == 0) = true := by rw [beq_iff_eq]; exact l1
              have t3 : decide ((dg y.D 0 : Int) < 53) = true := by rw [decide_eq_true_eq]; omega
              clear dd l1
              go_wp2
              go_meet
              exact ⟨by first | rfl | rw [t3], rfl⟩
          case rest =>
            obtain ⟨rfl, rfl⟩ := hcut
            clear dd ld cd HB
            go_upto_region 20 with (fail)
            go_cut [88] from 81 to 88 (fun t wx => t = .bool (decide (9 ≤ P)) ∧ Pur wr wx)
            case first =>
              clear HS2 SR
              go_wp2_with fail
              refine wp_region_pur (by kernel_rfl) (by kernel_rfl) ?_
              repeat (go_big_quiet_step (fail))
              refine wpQuiet_nil ?_
              intro wq hq
              go_wp2
              go_meet
              exact ⟨by simp, hq⟩
            case rest =>
              obtain ⟨rfl, q1⟩ := hcut
              go_upto_if 88 with (fail)
              go_cut [9] from 89 to 96 (fun t wx => t = .int .i64 (S : Int) ∧ Pur wr wx)
              case first =>
                clear HS2 SR
                by_cases p9 : 9 ≤ P
                · have t9 : decide (9 ≤ P) = true := by rw [decide_eq_true_eq]; exact p9
                  have HSd := Lib.hid (hSd.trans (if_pos p9))
                  clear hSd tn
                  go_wp2
                  go_meet
                  rw [HSd.out]
                  exact ⟨rfl, q1⟩
                · have t9 : decide (9 ≤ P) = false := by rw [decide_eq_false_iff_not]; exact p9
                  have HSd := Lib.hid (hSd.trans (if_neg p9))
                  have P9 : (P : Int) < 9 := by omega
                  have kP := k2 P (by omega)
                  rw [← HSd.out] at kP
                  skip
                  have kP' := fun v : PW _ => cell_pur kP (q1.trans v.pur)
                  have k1'' := fun v : PW _ => cell_pur k1 (q1.trans v.pur)
                  have cp'' := fun v : PW _ => (hy.pur (q1.trans v.pur)).cdp
                  clear hSd tn k1' cp' k2
                  go_wp2
                  refine wp_region_pur (by kernel_rfl) (by kernel_rfl) ?_
                  repeat (go_big_quiet_step (fail))
                  refine wpQuiet_nil ?_
                  intro wq hq
                  go_wp2
                  go_meet
                  exact ⟨rfl, q1.trans hq⟩
              case rest =>
                clear q1
                obtain ⟨rfl, q1⟩ := hcut
                have SR1 := SR _ q1
                clear SR k1' cp' k2 tn hSd
                go_wp2_with fail
                refine SR1.mono ?_
                rintro e9 w9 ⟨rfl, r1, r2⟩
                have hc2 := (hc.pur q1).trans r2
                go_wp2
                go_roundw
                case rel => exact ⟨f, z, _, rfl, s1, r1, hc2, b1, b6, b3, b4, b2, b5, HS2⟩
                case measure => exact Nat.lt_of_lt_of_le (Nat.lt_of_le_of_lt (least_le (f := f) ⟨z, _, rfl, s1, r1, hc2, b1, b6, b3, b4, b2, b5, HS2⟩) (Nat.lt_succ_self f)) hF.out
    case rest =>
      clear HU oA hyA hcA a1 a2 a3 a4
      obtain ⟨rfl, oU, hyU, hcU, u1, u2, u3, u4⟩ := hcut
      obtain ⟨U1, U2⟩ := U
      simp only at HN oU hyU hcU u1 u2 u3 u4
      obtain ⟨e3, he3⟩ : ∃ e3, U2 - 1 = e3 := ⟨_, rfl⟩
      obtain ⟨C, hC⟩ : ∃ C : Dec × Int, (if e3 < -1022 then (shr (-1022 - e3).toNat U1, -1022) else (U1, e3)) = C := ⟨_, rfl⟩
      rw [he3] at HN
      simp only [hC] at HN
      have HC := Lib.hid (show C = (if e3 < -1022 then (shr (-1022 - e3).toNat U1, -1022) else (U1, e3)) from hC.symm)
      have hpU : Pur w0 _ := pur_chg hp hcU hb
      have z2 := (E.f.pur hpU).c2
      have we3 : IntKind.i64.wrap (U2 - 1) = e3 := by rw [he3]; exact IntWalk.i64_in _ (by omega)
      have wb : IntKind.i64.wrap (-1023 + 1) = -1022 := by decide
      have e3l : -10000001 ≤ e3 := by omega
      have e3h : e3 ≤ 200000 := by omega
      clear hC he3 u3 u4
      obtain ⟨lt, hlt⟩ : ∃ lt, decide (e3 < -1022) = lt := ⟨_, rfl⟩
      go_upto_if 111 with (fail)
      go_cut [6] from 112 to 125 (fun v wx => ∃ wC, wC = wx ∧ v = .int .i64 C.2 ∧ Ok C.1 ∧ DW wx b C.1 ∧ Chg [b] w wx ∧ -9000000000 ≤ C.1.dp ∧ C.1.dp ≤ 600 ∧ -1022 ≤ C.2 ∧ C.2 ≤ 200000)
      case first =>
        clear HN HG0 HG1
        cases lt with
        | true =>
          have g : e3 < -1022 := by simpa using hlt
          obtain ⟨N, hN⟩ := Int.eq_ofNat_of_zero_le (show 0 ≤ -1022 - e3 by omega)
          have HC2 := Lib.hid (show C = (shr N U1, -1022) by rw [HC.out, if_pos g, hN, Int.toNat_natCast])
          have wN : IntKind.i64.wrap (-1022 - e3) = (N : Int) := by rw [hN]; exact IntWalk.i64_in _ (by omega)
          have wm : IntKind.i64.wrap (-(N : Int)) = -(N : Int) := IntWalk.i64_in _ (by omega)
          have wp : IntKind.i64.wrap (e3 + (N : Int)) = -1022 := by rw [show e3 + (N : Int) = -1022 by omega]; decide
          have SR := shr_any hyU oU (k := N) (by omega) (by omega) (by omega) (by omega)
          obtain ⟨s1, s2, s3, -⟩ := shr_says N oU (by omega)
          have s4 : -9000000000 ≤ (shr N U1).dp := by omega
          have s5 : (shr N U1).dp ≤ 600 := by omega
          generalize shr N U1 = z at *
          clear HC g hN s2 s3 u1 u2 e3l e3h we3
          go_wp2_with fail
          refine SR.mono ?_
          rintro e9 w9 ⟨rfl, r1, r2⟩
          have hc2 := hcU.trans r2
          go_wp2
          go_meet
          rw [HC2.out]
          exact ⟨_, rfl, rfl, s1, r1, hc2, s4, s5, by simp only; omega, by simp only; omega⟩
        | false =>
          have g : ¬ e3 < -1022 := by simpa using hlt
          have HC2 := Lib.hid (show C = (U1, e3) by rw [HC.out, if_neg g])
          have s4 : -9000000000 ≤ U1.dp := by omega
          have s6 : -1022 ≤ e3 := by omega
          clear HC we3
          go_wp2
          go_meet
          rw [HC2.out]
          exact ⟨_, rfl, rfl, oU, hyU, hcU, s4, u2, s6, e3h⟩
      case rest =>
        clear HC oU hyU hcU u1 u2 we3 e3l e3h z2 hpU hlt
        obtain ⟨wC, rfl, rfl, oC, hyC, hcC, c1, c2, c3, c4⟩ := hcut
        obtain ⟨Y, e4⟩ := C
        simp only at HN oC hyC hcC c1 c2 c3 c4
        have hpC := pur_chg hp hcC hb
        have z1' := fun y : PW _ => (E.f.pur (hpC.trans y.pur)).c1
        have z2' := fun y : PW _ => (E.f.pur (hpC.trans y.pur)).c2
        obtain ⟨V, hV⟩ := Int.eq_ofNat_of_zero_le (show 0 ≤ e4 + 1023 by omega)
        have hV1 : 1 ≤ V := by omega
        have hVe : (V : Int) = e4 + 1023 := by omega
        have wV : IntKind.i64.wrap (e4 - -1023) = (V : Int) := by rw [show e4 - -1023 = (V : Int) by omega]; exact IntWalk.i64_in _ (by omega)
        have wV' : IntKind.i64.wrap (e4 + 1023) = (V : Int) := by rw [show e4 + 1023 = (V : Int) by omega]; exact IntWalk.i64_in _ (by omega)
        have HV := Lib.hid hVe
        clear hV hVe
        by_cases ov : 2047 ≤ V
        · have HN2 := Lib.hid (show X = (9218868437227405312, true) by rw [HN.out, if_pos (by rw [← HV.out]; omega)])
          have t1 : decide ((2047 : Int) ≤ (V : Int)) = true := by rw [decide_eq_true_eq]; omega
          go_wp2
          refine wp_region_pur (by kernel_rfl) (by kernel_rfl) ?_
          repeat (go_big_quiet_step (fail))
          refine wpQuiet_nil ?_
          intro w5 h5
          clear z1' z2'
          have hp5 := hpC.trans h5
          have hW5 := hyC.pur h5
          have hC5 := hcC.pur h5
          go_wp2
          go_step3
          simp only [Exit.inBlock, Exit.then, Exit.two]
          refine .inr ⟨trivial, HG1.out _ _ ?_⟩
          clear HG0 HG1
          have y1' := fun y : PW w5 => (E.f.pur (Pur.trans hp5 y.pur)).c1
          have y2' := fun y : PW w5 => (E.f.pur (Pur.trans hp5 y.pur)).c2
          go_wp2
          refine wp_region_pur (by kernel_rfl) (by kernel_rfl) ?_
          repeat (go_big_quiet_step (fail))
          refine wpQuiet_nil ?_
          intro w7 h7
          clear y1' y2'
          have hp7 := Pur.trans hp5 h7
          have hW7 := hW5.pur h7
          have hC7 := Chg.pur hC5 h7
          go_wp2
          go_step3
          have z0 := (E.f.pur hp7).c0
          have z0' := fun y : PW w7 => (E.f.pur (Pur.trans hp7 y.pur)).c0
          have z1' := fun y : PW w7 => (E.f.pur (Pur.trans hp7 y.pur)).c1
          have z2' := fun y : PW w7 => (E.f.pur (Pur.trans hp7 y.pur)).c2

          have b0 : bits .and .u64 0 4503599627370495 = 0 := by decide
          have b1 : bits .and .i64 2047 2047 = 2047 := by decide
          have b2 : bits .or .u64 0 9218868437227405312 = 9218868437227405312 := by decide
          go_wp2
          refine wp_region_pur (by kernel_rfl) (by kernel_rfl) ?_
          repeat (go_big_quiet_step (fail))
          refine wpQuiet_nil ?_
          intro wo ho
          have cg8 := (hW7.pur ho).cneg
          go_wp2
          simp only [Exit.noGoto]
          go_ret2
          rw [HN2.out]
          exact ⟨rfl, Chg.pur hC7 ho⟩
        · have HN2 := Lib.hid (show X = packB (rint (shl 53 Y)) e4 by rw [HN.out, if_neg (by rw [← HV.out]; omega)])
          have t1 : decide ((2047 : Int) ≤ (V : Int)) = false := by rw [decide_eq_false_iff_not]; omega
          have SL := fun (wz : World) (hz : Pur wC wz) => shl_any E.lc (hpC.trans hz) hb (hyC.pur hz) oC (k := 53) (by decide) (by decide) (by omega) (by omega)
          simp only [show ((53 : Nat) : Int) = 53 from rfl] at SL
          obtain ⟨s1, s2, s3, -⟩ := shl_says 53 oC (by decide)
          have s4 : -1000000000000000 ≤ (shl 53 Y).dp := by omega
          have s5 : (shl 53 Y).dp ≤ 1000000000000000 := by omega
          generalize shl 53 Y = z at *
          have RI := fun (wz : World) (hz : DW wz b z) => rint_any hz s1.nd s1.v s4 s5
          obtain ⟨m, hm⟩ : ∃ m, rint z = m := ⟨_, rfl⟩
          have ml : m < 18446744073709551616 := by
            rw [← hm]; unfold rint; split
            · decide
            · exact Nat.mod_lt _ (by decide)
          simp only [hm] at RI HN2
          have BA := u64_and_nat m 4503599627370495 ml (by decide)
          have BB := u64_and_nat m 4503599627370496 ml (by decide)
          rw [show ((4503599627370495 : Nat) : Int) = 4503599627370495 from rfl] at BA
          rw [show ((4503599627370496 : Nat) : Int) = 4503599627370496 from rfl] at BB
          obtain ⟨L, hL⟩ : ∃ L, m &&& 4503599627370495 = L := ⟨_, rfl⟩
          have Ll : L < 18446744073709551616 := by rw [← hL]; exact Nat.lt_of_le_of_lt Nat.and_le_left ml
          rw [hL] at BA
          clear HN hm s2 s3 s4 s5 c1 c2
          go_wp2
          refine wp_region_pur (by kernel_rfl) (by kernel_rfl) ?_
          repeat (go_big_quiet_step (fail))
          refine wpQuiet_nil ?_
          intro w5 h5
          have SL5 := SL w5 h5
          have z0 := (E.f.pur (hpC.trans h5)).c0
          clear z1' z2' SL
          go_wp2_with fail
          refine SL5.mono ?_
          rintro e9 w6 ⟨rfl, r1, r2⟩
          have RI6 := RI w6 r1
          have hC6 := (hcC.pur h5).trans r2
          have hp6 := pur_chg hp hC6 hb
          have z06 := (E.f.pur hp6).c0
          clear RI z0
          go_wp2_with fail
          refine RI6.mono ?_
          rintro e9 w7 ⟨rfl, rfl⟩
          by_cases m2 : m = 9007199254740992
          · have t2 : ((m : Int) == 9007199254740992) = true := by rw [beq_iff_eq]; omega
            subst m2
            have z1' := fun y : PW w6 => (E.f.pur (hp6.trans y.pur)).c1
            have z2' := fun y : PW w6 => (E.f.pur (hp6.trans y.pur)).c2
            have wz1 : IntKind.i64.wrap (e4 + 1) = e4 + 1 := IntWalk.i64_in _ (by omega)
            have wz2 : IntKind.i64.wrap (e4 + 1 - -1023) = ((V + 1 : Nat) : Int) := by rw [show e4 + 1 - -1023 = ((V + 1 : Nat) : Int) by have := HV.out; omega]; exact IntWalk.i64_in _ (by omega)
            have wz3 : IntKind.i64.wrap (e4 + 1 + 1023) = ((V + 1 : Nat) : Int) := by rw [show e4 + 1 + 1023 = ((V + 1 : Nat) : Int) by have := HV.out; omega]; exact IntWalk.i64_in _ (by omega)
            obtain ⟨Vz, hVz⟩ : ∃ Vz, V + 1 = Vz := ⟨_, rfl⟩
            rw [hVz] at wz2 wz3
            by_cases ov2 : 2047 ≤ Vz
            · have HX := Lib.hid (show X = (9218868437227405312, true) by
                rw [HN2.out]; unfold packB; rw [if_pos rfl, if_pos (by have := HV.out; omega)])
              have t3 : decide ((2047 : Int) ≤ (Vz : Int)) = true := by rw [decide_eq_true_eq]; omega
              clear hVz
              go_wp2
              refine wp_region_pur (by kernel_rfl) (by kernel_rfl) ?_
              repeat (go_big_quiet_step (fail))
              refine wpQuiet_nil ?_
              intro w8 h8
              clear z1' z2'
              have hp8 := hp6.trans h8
              have hW8 := r1.pur h8
              have hC8 := hC6.pur h8
              go_wp2
              go_step3
              simp only [Exit.inBlock, Exit.then, Exit.two]
              refine .inr ⟨trivial, HG1.out _ _ ?_⟩
              clear HG0 HG1
              have y1' := fun y : PW w8 => (E.f.pur (Pur.trans hp8 y.pur)).c1
              have y2' := fun y : PW w8 => (E.f.pur (Pur.trans hp8 y.pur)).c2
              go_wp2
              refine wp_region_pur (by kernel_rfl) (by kernel_rfl) ?_
              repeat (go_big_quiet_step (fail))
              refine wpQuiet_nil ?_
              intro w7 h7
              clear y1' y2'
              have hp7 := Pur.trans hp8 h7
              have hW7 := hW8.pur h7
              have hC7 := Chg.pur hC8 h7
              go_wp2
              go_step3
              have z0 := (E.f.pur hp7).c0
              have z0' := fun y : PW w7 => (E.f.pur (Pur.trans hp7 y.pur)).c0
              have z1' := fun y : PW w7 => (E.f.pur (Pur.trans hp7 y.pur)).c1
              have z2' := fun y : PW w7 => (E.f.pur (Pur.trans hp7 y.pur)).c2

              have b0 : bits .and .u64 0 4503599627370495 = 0 := by decide
              have b1 : bits .and .i64 2047 2047 = 2047 := by decide
              have b2 : bits .or .u64 0 9218868437227405312 = 9218868437227405312 := by decide
              go_wp2
              refine wp_region_pur (by kernel_rfl) (by kernel_rfl) ?_
              repeat (go_big_quiet_step (fail))
              refine wpQuiet_nil ?_
              intro wo ho
              have cg8 := (hW7.pur ho).cneg
              go_wp2
              simp only [Exit.noGoto]
              go_ret2
              rw [HX.out]
              exact ⟨rfl, Chg.pur hC7 ho⟩
            · have hX0 : X = packB.fin 4503599627370496 (e4 + 1) := by
                rw [HN2.out]; unfold packB; rw [if_pos rfl, if_neg (by have := HV.out; omega)]
              have hX1 : X = (Vz * 4503599627370496, false) := by
                rw [hX0]; unfold packB.fin
                rw [if_neg (by decide), show (e4 + 1 + 1023).toNat % 2048 = Vz by have := HV.out; omega, show (4503599627370496 &&& 4503599627370495 : Nat) = 0 by decide, Nat.zero_or]
              have HX := Lib.hid hX1
              have t3 : decide ((2047 : Int) ≤ (Vz : Int)) = false := by rw [decide_eq_false_iff_not]; omega
              have bz : bits .and .u64 4503599627370496 4503599627370496 = 4503599627370496 := by decide
              have bv : bits .and .i64 (Vz : Int) 2047 = (Vz : Int) := by
                have := bits_mask .i64 63 (by decide) (fun n h0 h1 => IntWalk.i64_in _ (by omega)) 11 (by decide) (Vz : Int) (by omega) (by omega)
                rw [show ((2 : Int) ^ 11 - 1) = 2047 from rfl] at this
                rw [this]; omega
              have bc : IntKind.u64.wrap (Vz : Int) = (Vz : Int) := IntWalk.u64_in _ (by omega)
              have bs : IntKind.u64.wrap ((Vz : Int) * 4503599627370496) = (Vz : Int) * 4503599627370496 := IntWalk.u64_in _ (by omega)
              have bw : bits .or .u64 0 ((Vz : Int) * 4503599627370496) = (Vz : Int) * 4503599627370496 := by
                have := u64_or_nat 0 (Vz * 4503599627370496) (by decide) (by omega)
                rw [Nat.zero_or, show ((Vz * 4503599627370496 : Nat) : Int) = (Vz : Int) * 4503599627370496 by omega] at this
                exact this
              have b0 : bits .and .u64 4503599627370496 4503599627370495 = 0 := by decide
              clear hVz hX0 hX1
              go_wp2
              refine wp_region_pur (by kernel_rfl) (by kernel_rfl) ?_
              repeat (go_big_quiet_step (fail))
              refine wpQuiet_nil ?_
              intro w8 h8
              clear z1' z2'
              have hp8 := hp6.trans h8
              have hW8 := r1.pur h8
              have hC8 := hC6.pur h8
              have z08 := (E.f.pur hp8).c0
              go_wp2
              go_step3
              simp only [Exit.inBlock, Exit.then, Exit.two]
              refine .inl ⟨trivial, HG0.out _ _ ?_⟩
              clear HG0 HG1 z08
              have z0 := (E.f.pur hp8).c0
              have z0' := fun y : PW w8 => (E.f.pur (Pur.trans hp8 y.pur)).c0
              have z1' := fun y : PW w8 => (E.f.pur (Pur.trans hp8 y.pur)).c1
              have z2' := fun y : PW w8 => (E.f.pur (Pur.trans hp8 y.pur)).c2
              skip
              go_wp2
              refine wp_region_pur (by kernel_rfl) (by kernel_rfl) ?_
              repeat (go_big_quiet_step (fail))
              refine wpQuiet_nil ?_
              intro wo ho
              have cg8 := (hW8.pur ho).cneg
              go_wp2
              simp only [Exit.noGoto]
              go_ret2
              rw [HX.out]
              exact ⟨rfl, Chg.pur hC8 ho⟩
          · have t2 : ((m : Int) == 9007199254740992) = false := by rw [beq_eq_false_iff_ne]; omega
            have hX0 : X = packB.fin m e4 := by
              rw [HN2.out]; unfold packB; rw [if_neg m2]
            have z26 := (E.f.pur hp6).c2
            by_cases dn : m &&& 4503599627370496 = 0
            · have hX1 : X = (L, false) := by
                rw [hX0]; unfold packB.fin
                rw [if_pos dn, hL, Nat.or_zero]
              have HX := Lib.hid hX1
              have BB0 : bits .and .u64 (m : Int) 4503599627370496 = 0 := by rw [BB, dn]; rfl
              have b1 : bits .and .i64 0 2047 = 0 := by decide
              have b2 : bits .or .u64 (L : Int) 0 = (L : Int) := by
                have := u64_or_nat L 0 Ll (by decide)
                rw [Nat.or_zero] at this
                exact this
              clear hX0 hX1 dn BB m2 hL
              go_wp2
              go_step3
              simp only [Exit.inBlock, Exit.then, Exit.two]
              refine .inl ⟨trivial, HG0.out _ _ ?_⟩
              clear HG0 HG1 z06 z26
              have z0 := (E.f.pur hp6).c0
              have z0' := fun y : PW w6 => (E.f.pur (Pur.trans hp6 y.pur)).c0
              have z1' := fun y : PW w6 => (E.f.pur (Pur.trans hp6 y.pur)).c1
              have z2' := fun y : PW w6 => (E.f.pur (Pur.trans hp6 y.pur)).c2
              skip
              go_wp2
              refine wp_region_pur (by kernel_rfl) (by kernel_rfl) ?_
              repeat (go_big_quiet_step (fail))
              refine wpQuiet_nil ?_
              intro wo ho
              have cg8 := (r1.pur ho).cneg
              go_wp2
              simp only [Exit.noGoto]
              go_ret2
              rw [HX.out]
              exact ⟨rfl, Chg.pur hC6 ho⟩
            · obtain ⟨Q, hQ⟩ : ∃ Q, m &&& 4503599627370496 = Q := ⟨_, rfl⟩
              rw [hQ] at BB
              have d3 : ((Q : Int) == 0) = false := by rw [beq_eq_false_iff_ne]; omega
              have hX1 : X = ((L ||| V * 4503599627370496), false) := by
                rw [hX0]; unfold packB.fin
                rw [if_neg dn, hL, show (e4 + 1023).toNat % 2048 = V by have := HV.out; omega]
              have HX := Lib.hid hX1
              have bv : bits .and .i64 (V : Int) 2047 = (V : Int) := by
                have := bits_mask .i64 63 (by decide) (fun n h0 h1 => IntWalk.i64_in _ (by omega)) 11 (by decide) (V : Int) (by omega) (by omega)
                rw [show ((2 : Int) ^ 11 - 1) = 2047 from rfl] at this
                rw [this]; omega
              have bc : IntKind.u64.wrap (V : Int) = (V : Int) := IntWalk.u64_in _ (by omega)
              have bs : IntKind.u64.wrap ((V : Int) * 4503599627370496) = (V : Int) * 4503599627370496 := IntWalk.u64_in _ (by omega)
              have bw : bits .or .u64 (L : Int) ((V : Int) * 4503599627370496) = ((L ||| V * 4503599627370496 : Nat) : Int) := by
                have := u64_or_nat L (V * 4503599627370496) Ll (by omega)
                rw [← this, show ((V * 4503599627370496 : Nat) : Int) = (V : Int) * 4503599627370496 by omega]
              clear hX0 hX1 dn m2 hL hQ
              go_wp2
              go_step3
              simp only [Exit.inBlock, Exit.then, Exit.two]
              refine .inl ⟨trivial, HG0.out _ _ ?_⟩
              clear HG0 HG1 z06 z26
              have z0 := (E.f.pur hp6).c0
              have z0' := fun y : PW w6 => (E.f.pur (Pur.trans hp6 y.pur)).c0
              have z1' := fun y : PW w6 => (E.f.pur (Pur.trans hp6 y.pur)).c1
              have z2' := fun y : PW w6 => (E.f.pur (Pur.trans hp6 y.pur)).c2
              skip
              go_wp2
              refine wp_region_pur (by kernel_rfl) (by kernel_rfl) ?_
              repeat (go_big_quiet_step (fail))
              refine wpQuiet_nil ?_
              intro wo ho
              have cg8 := (r1.pur ho).cneg
              go_wp2
              simp only [Exit.noGoto]
              go_ret2
              rw [HX.out]
              exact ⟨rfl, Chg.pur hC6 ho⟩
end Dc
end Go.Proofs.YtciigfaojmpoiaaGreatDoor
