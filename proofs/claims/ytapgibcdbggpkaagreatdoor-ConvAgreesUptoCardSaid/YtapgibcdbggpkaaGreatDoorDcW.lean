/- The library's decimal as a float's bits. The library's decimal, read of a text. -/
import Derived.Test.YtapgibcdbggpkaaGreatDoorDcZ
import Derived.Test.YtapgibcdbggpkaaGreatDoorRfX
import Derived.Test.YtapgibcdbggpkaaGreatDoorRf1
import Derived.Test.YtapgibcdbggpkaaGreatDoorTbE
namespace Go.Proofs.YtapgibcdbggpkaaGreatDoor
open Go Go.RowKit
set_option linter.all false
namespace Dc
variable {ng : Bool}
/-- the library's small table of powers, as it lies -/
structure PWT (w : World) : Prop where
  sl : ∃ g o c, w.cell? ⟨11, 0, none⟩ = some (.slice (some ⟨g, o, none⟩) 9 c) ∧ ∀ k, k < 9 → w.cell? ⟨g, o + k, none⟩ = some (.int .i64 ((powt.getD k 0 : Nat) : Int))
theorem PWT.pur {w w' : World} (h : PWT w) (hp : Pur w w') : PWT w' := by
  obtain ⟨g, o, c, h1, h2⟩ := h.sl
  exact ⟨g, o, c, cell_pur h1 hp, fun k hk => cell_pur (h2 k hk) hp⟩
/-- the variables that the slow way asks -/
structure DE (w : World) : Prop where
  f : Rf.F64 w
  lc : LCT w
  pw : PWT w
theorem DE.pur {w w' : World} (h : DE w) (hp : Pur w w') : DE w' := ⟨h.f.pur hp, h.lc.pur hp, h.pw.pur hp⟩
/-- the sign's bit -/
def sg (ng : Bool) : Nat := if ng = true then 9223372036854775808 else 0
theorem or_sign (n : Nat) (h : n < 9223372036854775808) : bits .or .u64 (n : Int) 9223372036854775808 = ((n + sg true : Nat) : Int) := by
  have := u64_or_nat n 9223372036854775808 (by omega) (by decide)
  rw [show ((9223372036854775808 : Nat) : Int) = 9223372036854775808 from rfl] at this
  rw [this]
  have h2 := Nat.two_pow_add_eq_or_of_lt (i := 63) (b := n) (by omega) 1
  rw [Nat.or_comm, show (9223372036854775808 : Nat) = 2 ^ 63 * 1 by decide, ← h2]
  show ((2 ^ 63 * 1 + n : Nat) : Int) = ((n + 9223372036854775808 : Nat) : Int)
  omega
/-- on the way down -/
def QD (b : Nat) (w : World) (A : Dec × Int) (f : Nat) (v : Value) (wr : World) : Prop :=
  ∃ (y : Dec) (e : Int), v = .int .i64 e ∧ Ok y ∧ DW ng wr b y ∧ Chg [b] w wr ∧ near y ≤ (f : Int) ∧ f ≤ 4000 ∧ -24000 ≤ y.dp ∧ y.dp ≤ 310 ∧ 0 ≤ e ∧ e ≤ 27 * (4000 - (f : Int)) ∧ Hid (A = fdown f y e)
/-- on the way up -/
def QU (b : Nat) (w : World) (A : Dec × Int) (f : Nat) (v : Value) (wr : World) : Prop :=
  ∃ (y : Dec) (e : Int), v = .int .i64 e ∧ Ok y ∧ DW ng wr b y ∧ Chg [b] w wr ∧ 53 - near y ≤ (f : Int) ∧ f ≤ 300000 ∧ -24000 ≤ y.dp ∧ y.dp ≤ 600 ∧ -27 * (300000 - (f : Int)) ≤ e ∧ e ≤ 200000 ∧ Hid (A = fup f y e)
set_option maxRecDepth 100000 in
set_option maxHeartbeats 64000000 in
theorem bits_any {w0 w : World} {b : Nat} {x : Dec} (E : DE w0) (hp : Pur w0 w) (hb : w0.heap.size ≤ b) (h : DW ng w b x) (ok : Ok x) (m0 : -10000000 ≤ x.dp) (m1 : x.dp ≤ 10000000) :
    Calls Tryz.prog 166 #[.pointer (some ⟨b, 0, none⟩), .pointer (some ⟨9, 0, none⟩)] w fun e w' => e = .returned (.tuple #[.int .u64 (((fbits x).1 + sg ng : Nat) : Int), .bool (fbits x).2]) ∧ Chg [b] w w' := by
  have hnd := ok.pos
  have c0 := h.cnd
  have cp := h.cdp
  have d0 : ((x.nd : Int) == 0) = false := by rw [beq_eq_false_iff_ne]; omega
  have z2 := (E.f.pur hp).c2
  by_cases g1 : 310 < x.dp
  · have d1 : decide ((310 : Int) < x.dp) = true := by rw [decide_eq_true_eq]; exact g1
    have HN := Lib.hid (show fbits x = (9218868437227405312, true) by unfold fbits; rw [if_pos g1])
    clear g1 m0 m1
    go_enter Tryz.func166, Tryz.ntmps166
    go_wp2
    refine wp_scope_two rfl rfl ?_
    intro G0 G1 hG0 hG1
    have HG0 := Lib.hid hG0
    have HG1 := Lib.hid hG1
    clear hG0 hG1
    go_wp2
    go_step3
    simp only [Exit.inBlock, Exit.then, Exit.two]
    refine .inr ⟨trivial, HG1.out _ _ ?_⟩
    clear HG0 HG1
    have y1' := fun y : PW w => (E.f.pur (Pur.trans hp y.pur)).c1
    have y2' := fun y : PW w => (E.f.pur (Pur.trans hp y.pur)).c2
    go_wp2
    refine wp_region_pur (by kernel_rfl) (by kernel_rfl) ?_
    repeat (go_big_quiet_step (fail))
    refine wpQuiet_nil ?_
    intro w7 h7
    clear y1' y2'
    have hp7 := Pur.trans hp h7
    have hW7 := h.pur h7
    have hC7 := Chg.pur (Chg.refl [b] w) h7
    go_wp2
    go_step3
    have z0 := (E.f.pur hp7).c0
    have z0' := fun y : PW w7 => (E.f.pur (Pur.trans hp7 y.pur)).c0
    have z1' := fun y : PW w7 => (E.f.pur (Pur.trans hp7 y.pur)).c1
    have z2' := fun y : PW w7 => (E.f.pur (Pur.trans hp7 y.pur)).c2

    have b0 : bits .and .u64 0 4503599627370495 = 0 := by decide
    have b1 : bits .and .i64 2047 2047 = 2047 := by decide
    have b2 : bits .or .u64 0 9218868437227405312 = 9218868437227405312 := by decide
    go_wp2
    refine wp_region_pur (by kernel_rfl) (by kernel_rfl) ?_
    repeat (go_big_quiet_step (fail))
    refine wpQuiet_nil ?_
    intro wo ho
    have cg8 := (hW7.pur ho).cneg
    cases ng with
    | false =>
      go_wp2
      simp only [Exit.noGoto]
      go_ret2
      rw [HN.out]
      exact ⟨by rw [show sg false = 0 from rfl, Nat.add_zero]; try rfl, Chg.pur hC7 ho⟩
    | true =>
      have y0' := fun y : PW wo => (E.f.pur (Pur.trans (Pur.trans hp7 ho) y.pur)).c0
      have y1' := fun y : PW wo => (E.f.pur (Pur.trans (Pur.trans hp7 ho) y.pur)).c1
      have bo : bits .or .u64 9218868437227405312 9223372036854775808 = ((9218868437227405312 + sg true : Nat) : Int) := by decide
      clear z0 z0' z1' z2'
      go_wp2
      refine wp_region_pur (by kernel_rfl) (by kernel_rfl) ?_
      repeat (go_big_quiet_step (fail))
      refine wpQuiet_nil ?_
      intro wn hn
      go_wp2
      simp only [Exit.noGoto]
      go_ret2
      rw [HN.out]
      exact ⟨rfl, Chg.pur hC7 (ho.trans hn)⟩
  have d1 : decide ((310 : Int) < x.dp) = false := by rw [decide_eq_false_iff_not]; exact g1
  by_cases g2 : x.dp < -330
  · have d2 : decide (x.dp < -330) = true := by rw [decide_eq_true_eq]; exact g2
    have HN := Lib.hid (show fbits x = (0, false) by unfold fbits; rw [if_neg g1, if_pos g2])
    clear g1 g2 m0 m1
    go_enter Tryz.func166, Tryz.ntmps166
    go_wp2
    refine wp_scope_two rfl rfl ?_
    intro G0 G1 hG0 hG1
    have HG0 := Lib.hid hG0
    have HG1 := Lib.hid hG1
    clear hG0 hG1
    go_wp2
    go_step3
    simp only [Exit.inBlock, Exit.then, Exit.two]
    refine .inl ⟨trivial, HG0.out _ _ ?_⟩
    clear HG0 HG1
    have z0 := (E.f.pur hp).c0
    have z0' := fun y : PW w => (E.f.pur (Pur.trans hp y.pur)).c0
    have z1' := fun y : PW w => (E.f.pur (Pur.trans hp y.pur)).c1
    have z2' := fun y : PW w => (E.f.pur (Pur.trans hp y.pur)).c2

    have b0 : bits .and .u64 0 4503599627370495 = 0 := by decide
    have b1 : bits .and .i64 0 2047 = 0 := by decide
    have b2 : bits .or .u64 0 0 = 0 := by decide
    go_wp2
    refine wp_region_pur (by kernel_rfl) (by kernel_rfl) ?_
    repeat (go_big_quiet_step (fail))
    refine wpQuiet_nil ?_
    intro wo ho
    have cg8 := (h.pur ho).cneg
    cases ng with
    | false =>
      go_wp2
      simp only [Exit.noGoto]
      go_ret2
      rw [HN.out]
      exact ⟨by rw [show sg false = 0 from rfl, Nat.add_zero]; try rfl, Chg.pur (Chg.refl [b] w) ho⟩
    | true =>
      have y0' := fun y : PW wo => (E.f.pur (Pur.trans (Pur.trans hp ho) y.pur)).c0
      have y1' := fun y : PW wo => (E.f.pur (Pur.trans (Pur.trans hp ho) y.pur)).c1
      have bo : bits .or .u64 0 9223372036854775808 = ((0 + sg true : Nat) : Int) := by decide
      clear z0 z0' z1' z2'
      go_wp2
      refine wp_region_pur (by kernel_rfl) (by kernel_rfl) ?_
      repeat (go_big_quiet_step (fail))
      refine wpQuiet_nil ?_
      intro wn hn
      go_wp2
      simp only [Exit.noGoto]
      go_ret2
      rw [HN.out]
      exact ⟨rfl, Chg.pur (Chg.refl [b] w) (ho.trans hn)⟩
  have d2 : decide (x.dp < -330) = false := by rw [decide_eq_false_iff_not]; exact g2
  have d57 := ok.v 0 hnd
  obtain ⟨A, hA⟩ : ∃ A, fdown 4000 x 0 = A := ⟨_, rfl⟩
  obtain ⟨U, hU⟩ : ∃ U, fup 300000 A.1 A.2 = U := ⟨_, rfl⟩
  have HN := Lib.hid (show fbits x = (let c : Dec × Int := if U.2 - 1 < -1022 then (shr (-1022 - (U.2 - 1)).toNat U.1, -1022) else (U.1, U.2 - 1)
      if 2047 ≤ c.2 + 1023 then (9218868437227405312, true) else packB (rint (shl 53 c.1)) c.2) by
    unfold fbits; rw [if_neg g1, if_neg g2]; simp only [hA, hU])
  have HA := Lib.hid (show A = fdown 4000 x 0 from hA.symm)
  have HU := Lib.hid (show U = fup 300000 A.1 A.2 from hU.symm)
  generalize fbits x = X at *
  clear hA hU z2
  go_enter Tryz.func166, Tryz.ntmps166
  go_wp2
  refine wp_scope_two rfl rfl ?_
  intro G0 G1 hG0 hG1
  have HG0 := Lib.hid hG0
  have HG1 := Lib.hid hG1
  clear hG0 hG1
  go_upto_block 0 with (fail)
  go_cut [6] from 35 to 60 (fun v wx => v = .int .i64 A.2 ∧ Ok A.1 ∧ DW ng wx b A.1 ∧ Chg [b] w wx ∧ -24000 ≤ A.1.dp ∧ A.1.dp ≤ 310 ∧ 0 ≤ A.2 ∧ A.2 ≤ 110000)
  case first =>
    clear HN HU HG0 HG1
    go_wp2_with fail
    go_loopw [6] (fun v wr => ∃ f, QD (ng := ng) b w A f v wr) (fun v wr => least fun f => QD (ng := ng) b w A f v wr)
    case atStart => exact ⟨4000, x, 0, rfl, ok, h, Chg.refl _ _, by unfold near; omega, by omega, by omega, by omega, by omega, by omega, HA⟩
    case round =>
      obtain ⟨F, ⟨y, e, rfl, oy, hy, hc, n1, f4, y1, y2, e0, e1, HS⟩, hF⟩ := least_rel hrel
      clear HA h ok c0 cp hnd d0 d1 d2 d57 g1 g2 m0 m1
      have hpy : Pur w0 wr := pur_chg hp hc hb
      have cp := hy.cdp
      by_cases g : 0 < y.dp
      · have t1 : decide ((0 : Int) < y.dp) = true := by rw [decide_eq_true_eq]; exact g
        have ny : 49 ≤ near y := by unfold near; have := oy.d0; omega
        obtain ⟨f, rfl⟩ : ∃ f, F = f + 1 := ⟨F - 1, by omega⟩
        obtain ⟨P, hP⟩ := Int.eq_ofNat_of_zero_le (show 0 ≤ y.dp by omega)
        obtain ⟨S, hS⟩ : ∃ S, stp P = S := ⟨_, rfl⟩
        have hSl := stp_le P
        rw [hS] at hSl
        have HS2 := Lib.hid (show A = fdown f (shr S y) (e + (S : Int)) by rw [HS.out, fdown, if_pos g, hP, Int.toNat_natCast, hS])
        have hSd : S = if 9 ≤ P then 27 else powt.getD P 0 := by rw [← hS]; rfl
        have SR := fun (wz : World) (hz : Pur wr wz) => shr_any (hy.pur hz) oy hSl.1 (by omega) (by omega) (by omega)
        obtain ⟨s1, s2, s3, s4⟩ := shr_says S oy hSl.1
        generalize shr S y = z at *
        have cp' := fun v : PW wr => (hy.pur v.pur).cdp
        obtain ⟨g9, go9, gc9, k1, k2⟩ := (E.pw.pur hpy).sl
        have k1' := fun v : PW wr => cell_pur k1 v.pur
        have wn : IntKind.i64.wrap (-(S : Int)) = -(S : Int) := IntWalk.i64_in _ (by omega)
        have we : IntKind.i64.wrap (e + (S : Int)) = e + (S : Int) := IntWalk.i64_in _ (by omega)
        have tn : decide ((9 : Int) ≤ y.dp) = decide (9 ≤ P) := by rw [decide_eq_decide]; omega
        rw [hP] at cp cp' t1 tn
        have b1 : near z ≤ (f : Int) := by omega
        have b2 : e + (S : Int) ≤ 27 * (4000 - (f : Int)) := by omega
        have b3 : -24000 ≤ z.dp := by omega
        have b4 : z.dp ≤ 310 := by omega
        have b5 : 0 ≤ e + (S : Int) := by omega
        have b6 : f ≤ 4000 := by omega
        have P0 : (0 : Int) ≤ (P : Int) := by omega
        have Pp : 0 < P := by omega
        clear HS n1 y1 y2 s2 s3 s4 hS ny e0 e1 g
        go_upto_region 13 with (fail)
        go_cut [46] from 40 to 46 (fun t wx => t = .bool (decide (9 ≤ P)) ∧ Pur wr wx)
        case first =>
          clear HS2 SR
          go_wp2_with fail
          refine wp_region_pur (by kernel_rfl) (by kernel_rfl) ?_
          repeat (go_big_quiet_step (fail))
          refine wpQuiet_nil ?_
          intro wq hq
          go_wp2
          go_meet
          exact ⟨by simp, hq⟩
        case rest =>
          obtain ⟨rfl, q1⟩ := hcut
          go_upto_if 46 with (fail)
          go_cut [8] from 47 to 53 (fun t wx => t = .int .i64 (S : Int) ∧ Pur wr wx)
          case first =>
            clear HS2 SR
            by_cases p9 : 9 ≤ P
            · have t9 : decide (9 ≤ P) = true := by rw [decide_eq_true_eq]; exact p9
              have HSd := Lib.hid (hSd.trans (if_pos p9))
              clear hSd tn
              go_wp2
              go_meet
              rw [HSd.out]
              exact ⟨rfl, q1⟩
            · have t9 : decide (9 ≤ P) = false := by rw [decide_eq_false_iff_not]; exact p9
              have HSd := Lib.hid (hSd.trans (if_neg p9))
              have P9 : (P : Int) < 9 := by omega
              have kP := k2 P (by omega)
              rw [← HSd.out] at kP
              skip
              have kP' := fun v : PW _ => cell_pur kP (q1.trans v.pur)
              have k1'' := fun v : PW _ => cell_pur k1 (q1.trans v.pur)
              have cp'' := fun v : PW _ => (hy.pur (q1.trans v.pur)).cdp
              rw [hP] at cp''
              clear hSd tn k1' cp' k2
              go_wp2
              refine wp_region_pur (by kernel_rfl) (by kernel_rfl) ?_
              repeat (go_big_quiet_step (fail))
              refine wpQuiet_nil ?_
              intro wq hq
              go_wp2
              go_meet
              exact ⟨rfl, q1.trans hq⟩
          case rest =>
            clear q1
            obtain ⟨rfl, q1⟩ := hcut
            have SR1 := SR _ q1
            clear SR k1' cp' k2 tn hSd
            go_wp2_with fail
            refine SR1.mono ?_
            rintro e9 w9 ⟨rfl, r1, r2⟩
            have hc2 := (hc.pur q1).trans r2
            go_wp2
            go_roundw
            case rel => exact ⟨f, z, _, rfl, s1, r1, hc2, b1, b6, b3, b4, b5, b2, HS2⟩
            case measure => exact Nat.lt_of_lt_of_le (Nat.lt_of_le_of_lt (least_le (f := f) ⟨z, _, rfl, s1, r1, hc2, b1, b6, b3, b4, b5, b2, HS2⟩) (Nat.lt_succ_self f)) hF.out
      · have t1 : decide ((0 : Int) < y.dp) = false := by rw [decide_eq_false_iff_not]; exact g
        have HN := Lib.hid (show A = (y, e) by
          rw [HS.out]
          cases F with
          | zero => rfl
          | succ f => rw [fdown, if_neg g])
        have b2 : e ≤ 110000 := by omega
        clear HS n1 g e1
        go_wp2
        go_meet
        rw [HN.out]
        exact ⟨rfl, oy, hy, hc, y1, y2, e0, b2⟩
  case rest =>
    obtain ⟨rfl, oA, hyA, hcA, a1, a2, a3, a4⟩ := hcut
    clear HA h ok c0 cp hnd d0 d1 d2 d57 g1 g2 m0 m1
    go_upto_block 2 with (fail)
    go_cut [6] from 61 to 102 (fun v wx => v = .int .i64 U.2 ∧ Ok U.1 ∧ DW ng wx b U.1 ∧ Chg [b] w wx ∧ -24000 ≤ U.1.dp ∧ U.1.dp ≤ 600 ∧ -10000000 ≤ U.2 ∧ U.2 ≤ 200000)
    case first =>
      clear HN HG0 HG1
      go_wp2_with fail
      go_loopw [6] (fun v wr => ∃ f, QU (ng := ng) b w U f v wr) (fun v wr => least fun f => QU (ng := ng) b w U f v wr)
      case atStart => exact ⟨300000, A.1, A.2, rfl, oA, hyA, hcA, by have := oA.d0; unfold near; omega, by omega, by omega, by omega, by omega, by omega, HU⟩
      case round =>
        obtain ⟨F, ⟨y, e, rfl, oy, hy, hc, n1, f4, y1, y2, e0, e1, HS⟩, hF⟩ := least_rel hrel
        clear HU oA hyA hcA a1 a2 a3 a4
        have hpy : Pur w0 wr := pur_chg hp hc hb
        have cp := hy.cdp
        have cd := hy.cd (i := 0) (by decide)
        have HB := hy.B.2 0
        obtain ⟨lw, hlw⟩ : ∃ lw, low y = lw := ⟨_, rfl⟩
        have hld : lw = (decide (y.dp < 0) || (decide (y.dp = 0) && decide (dg y.D 0 < 53))) := by rw [← hlw]; rfl
        have dd : ((y.dp == 0) : Bool) = decide (y.dp = 0) := by rw [Bool.eq_iff_iff, beq_iff_eq, decide_eq_true_eq]
        rcases lw with _ | _
        · have HN := Lib.hid (show U = (y, e) by
            rw [HS.out]
            cases F with
            | zero => rfl
            | succ f => rw [fup, hlw]; rfl)
          have l1 : ¬ y.dp < 0 := fun h => by rw [decide_eq_true h] at hld; simp at hld
          have t1 : decide (y.dp < 0) = false := by rw [decide_eq_false_iff_not]; exact l1
          have b2 : -10000000 ≤ e := by omega
          by_cases l2 : y.dp = 0
          · have t2 : (y.dp == 0) = true := by rw [beq_iff_eq]; exact l2
            have l3 : ¬ dg y.D 0 < 53 := fun h => by rw [decide_eq_true l2, decide_eq_true h] at hld; simp at hld
            have t3 : decide ((dg y.D 0 : Int) < 53) = false := by rw [decide_eq_false_iff_not]; omega
            have L2 := Lib.hid l2
            clear HS n1 hld dd hlw e0 l1 l2
            go_wp2
            go_meet
            rw [HN.out]
            exact ⟨rfl, oy, hy, hc, y1, y2, b2, e1⟩
          · have t2 : (y.dp == 0) = false := by rw [beq_eq_false_iff_ne]; exact l2
            clear HS n1 hld dd hlw e0 l1
            go_wp2
            go_meet
            rw [HN.out]
            exact ⟨rfl, oy, hy, hc, y1, y2, b2, e1⟩
        · -- too low yet
          have ld : y.dp < 0 ∨ (y.dp = 0 ∧ dg y.D 0 < 53) := by
            have := hld.symm
            rw [Bool.or_eq_true, Bool.and_eq_true, decide_eq_true_eq, decide_eq_true_eq, decide_eq_true_eq] at this
            exact this
          have nl : near y ≤ 52 := by unfold near; have := oy.v 0 oy.pos; omega
          obtain ⟨f, rfl⟩ : ∃ f, F = f + 1 := ⟨F - 1, by omega⟩
          obtain ⟨P, hP⟩ := Int.eq_ofNat_of_zero_le (show 0 ≤ -y.dp by omega)
          have hPy : y.dp = -(P : Int) := by omega
          obtain ⟨S, hS⟩ : ∃ S, stp P = S := ⟨_, rfl⟩
          have hSl := stp_le P
          rw [hS] at hSl
          have HS2 := Lib.hid (show U = fup f (shl S y) (e - (S : Int)) by rw [HS.out, fup, hlw, if_pos rfl, hP, Int.toNat_natCast, hS])
          have hSd : S = if 9 ≤ P then 27 else powt.getD P 0 := by rw [← hS]; rfl
          have SR := fun (wz : World) (hz : Pur wr wz) => shl_any (E.lc) (hpy.trans hz) hb (hy.pur hz) oy hSl.1 (by omega) (by omega) (by omega)
          obtain ⟨s1, s2, s3, s4⟩ := shl_says S oy hSl.1
          generalize shl S y = z at *
          have cp' := fun v : PW wr => (hy.pur v.pur).cdp
          obtain ⟨g9, go9, gc9, k1, k2⟩ := (E.pw.pur hpy).sl
          have k1' := fun v : PW wr => cell_pur k1 v.pur
          have we : IntKind.i64.wrap (e - (S : Int)) = e - (S : Int) := IntWalk.i64_in _ (by omega)
          have wn : IntKind.i64.wrap (-y.dp) = (P : Int) := by rw [hP]; exact IntWalk.i64_in _ (by omega)
          have tn : decide ((9 : Int) ≤ (P : Int)) = decide (9 ≤ P) := by rw [decide_eq_decide]; omega
          have b1 : 53 - near z ≤ (f : Int) := by omega
          have b2 : -27 * (300000 - (f : Int)) ≤ e - (S : Int) := by omega
          have b3 : -24000 ≤ z.dp := by omega
          have b4 : z.dp ≤ 600 := by omega
          have b5 : e - (S : Int) ≤ 200000 := by omega
          have b6 : f ≤ 300000 := by omega
          have P0 : (0 : Int) ≤ (P : Int) := by omega
          have w1 : Pur wr wr := Pur.refl wr
          clear HS n1 y1 y2 s2 s3 s4 hS nl e0 e1 hlw hld hP hPy
          go_upto_region 18 with (fail)
          go_cut [80] from 61 to 80 (fun t wx => t = .bool true ∧ wr = wx)
          case first =>
            clear HS2 SR
            rcases ld with l1 | ⟨l1, l2⟩
            · have t1 : decide (y.dp < 0) = true := by rw [decide_eq_true_eq]; exact l1
              clear dd l1
              go_wp2
              go_meet
              exact ⟨by first | rfl | rw [t3], rfl⟩
            · have t1 : decide (y.dp < 0) = false := by rw [decide_eq_false_iff_not]; omega
              have t2 : (y.dp == 0) = true := by rw [beq_iff_eq]; exact l1
              have t3 : decide ((dg y.D 0 : Int) < 53) = true := by rw [decide_eq_true_eq]; omega
              clear dd l1
              go_wp2
              go_meet
              exact ⟨by first | rfl | rw [t3], rfl⟩
          case rest =>
            obtain ⟨rfl, rfl⟩ := hcut
            clear dd ld cd HB
            go_upto_region 20 with (fail)
            go_cut [88] from 81 to 88 (fun t wx => t = .bool (decide (9 ≤ P)) ∧ Pur wr wx)
            case first =>
              clear HS2 SR
              go_wp2_with fail
              refine wp_region_pur (by kernel_rfl) (by kernel_rfl) ?_
              repeat (go_big_quiet_step (fail))
              refine wpQuiet_nil ?_
              intro wq hq
              go_wp2
              go_meet
              exact ⟨by simp, hq⟩
            case rest =>
              obtain ⟨rfl, q1⟩ := hcut
              go_upto_if 88 with (fail)
              go_cut [9] from 89 to 96 (fun t wx => t = .int .i64 (S : Int) ∧ Pur wr wx)
              case first =>
                clear HS2 SR
                by_cases p9 : 9 ≤ P
                · have t9 : decide (9 ≤ P) = true := by rw [decide_eq_true_eq]; exact p9
                  have HSd := Lib.hid (hSd.trans (if_pos p9))
                  clear hSd tn
                  go_wp2
                  go_meet
                  rw [HSd.out]
                  exact ⟨rfl, q1⟩
                · have t9 : decide (9 ≤ P) = false := by rw [decide_eq_false_iff_not]; exact p9
                  have HSd := Lib.hid (hSd.trans (if_neg p9))
                  have P9 : (P : Int) < 9 := by omega
                  have kP := k2 P (by omega)
                  rw [← HSd.out] at kP
                  skip
                  have kP' := fun v : PW _ => cell_pur kP (q1.trans v.pur)
                  have k1'' := fun v : PW _ => cell_pur k1 (q1.trans v.pur)
                  have cp'' := fun v : PW _ => (hy.pur (q1.trans v.pur)).cdp
                  clear hSd tn k1' cp' k2
                  go_wp2
                  refine wp_region_pur (by kernel_rfl) (by kernel_rfl) ?_
                  repeat (go_big_quiet_step (fail))
                  refine wpQuiet_nil ?_
                  intro wq hq
                  go_wp2
                  go_meet
                  exact ⟨rfl, q1.trans hq⟩
              case rest =>
                clear q1
                obtain ⟨rfl, q1⟩ := hcut
                have SR1 := SR _ q1
                clear SR k1' cp' k2 tn hSd
                go_wp2_with fail
                refine SR1.mono ?_
                rintro e9 w9 ⟨rfl, r1, r2⟩
                have hc2 := (hc.pur q1).trans r2
                go_wp2
                go_roundw
                case rel => exact ⟨f, z, _, rfl, s1, r1, hc2, b1, b6, b3, b4, b2, b5, HS2⟩
                case measure => exact Nat.lt_of_lt_of_le (Nat.lt_of_le_of_lt (least_le (f := f) ⟨z, _, rfl, s1, r1, hc2, b1, b6, b3, b4, b2, b5, HS2⟩) (Nat.lt_succ_self f)) hF.out
    case rest =>
      clear HU oA hyA hcA a1 a2 a3 a4
      obtain ⟨rfl, oU, hyU, hcU, u1, u2, u3, u4⟩ := hcut
      obtain ⟨U1, U2⟩ := U
      simp only at HN oU hyU hcU u1 u2 u3 u4
      obtain ⟨e3, he3⟩ : ∃ e3, U2 - 1 = e3 := ⟨_, rfl⟩
      obtain ⟨C, hC⟩ : ∃ C : Dec × Int, (if e3 < -1022 then (shr (-1022 - e3).toNat U1, -1022) else (U1, e3)) = C := ⟨_, rfl⟩
      rw [he3] at HN
      simp only [hC] at HN
      have HC := Lib.hid (show C = (if e3 < -1022 then (shr (-1022 - e3).toNat U1, -1022) else (U1, e3)) from hC.symm)
      have hpU : Pur w0 _ := pur_chg hp hcU hb
      have z2 := (E.f.pur hpU).c2
      have we3 : IntKind.i64.wrap (U2 - 1) = e3 := by rw [he3]; exact IntWalk.i64_in _ (by omega)
      have wb : IntKind.i64.wrap (-1023 + 1) = -1022 := by decide
      have e3l : -10000001 ≤ e3 := by omega
      have e3h : e3 ≤ 200000 := by omega
      clear hC he3 u3 u4
      obtain ⟨lt, hlt⟩ : ∃ lt, decide (e3 < -1022) = lt := ⟨_, rfl⟩
      go_upto_if 111 with (fail)
      go_cut [6] from 112 to 125 (fun v wx => ∃ wC, wC = wx ∧ v = .int .i64 C.2 ∧ Ok C.1 ∧ DW ng wx b C.1 ∧ Chg [b] w wx ∧ -9000000000 ≤ C.1.dp ∧ C.1.dp ≤ 600 ∧ -1022 ≤ C.2 ∧ C.2 ≤ 200000)
      case first =>
        clear HN HG0 HG1
        cases lt with
        | true =>
          have g : e3 < -1022 := by simpa using hlt
          obtain ⟨N, hN⟩ := Int.eq_ofNat_of_zero_le (show 0 ≤ -1022 - e3 by omega)
          have HC2 := Lib.hid (show C = (shr N U1, -1022) by rw [HC.out, if_pos g, hN, Int.toNat_natCast])
          have wN : IntKind.i64.wrap (-1022 - e3) = (N : Int) := by rw [hN]; exact IntWalk.i64_in _ (by omega)
          have wm : IntKind.i64.wrap (-(N : Int)) = -(N : Int) := IntWalk.i64_in _ (by omega)
          have wp : IntKind.i64.wrap (e3 + (N : Int)) = -1022 := by rw [show e3 + (N : Int) = -1022 by omega]; decide
          have SR := shr_any hyU oU (k := N) (by omega) (by omega) (by omega) (by omega)
          obtain ⟨s1, s2, s3, -⟩ := shr_says N oU (by omega)
          have s4 : -9000000000 ≤ (shr N U1).dp := by omega
          have s5 : (shr N U1).dp ≤ 600 := by omega
          generalize shr N U1 = z at *
          clear HC g hN s2 s3 u1 u2 e3l e3h we3
          go_wp2_with fail
          refine SR.mono ?_
          rintro e9 w9 ⟨rfl, r1, r2⟩
          have hc2 := hcU.trans r2
          go_wp2
          go_meet
          rw [HC2.out]
          exact ⟨_, rfl, rfl, s1, r1, hc2, s4, s5, by simp only; omega, by simp only; omega⟩
        | false =>
          have g : ¬ e3 < -1022 := by simpa using hlt
          have HC2 := Lib.hid (show C = (U1, e3) by rw [HC.out, if_neg g])
          have s4 : -9000000000 ≤ U1.dp := by omega
          have s6 : -1022 ≤ e3 := by omega
          clear HC we3
          go_wp2
          go_meet
          rw [HC2.out]
          exact ⟨_, rfl, rfl, oU, hyU, hcU, s4, u2, s6, e3h⟩
      case rest =>
        clear HC oU hyU hcU u1 u2 we3 e3l e3h z2 hpU hlt
        obtain ⟨wC, rfl, rfl, oC, hyC, hcC, c1, c2, c3, c4⟩ := hcut
        obtain ⟨Y, e4⟩ := C
        simp only at HN oC hyC hcC c1 c2 c3 c4
        have hpC := pur_chg hp hcC hb
        have z1' := fun y : PW _ => (E.f.pur (hpC.trans y.pur)).c1
        have z2' := fun y : PW _ => (E.f.pur (hpC.trans y.pur)).c2
        obtain ⟨V, hV⟩ := Int.eq_ofNat_of_zero_le (show 0 ≤ e4 + 1023 by omega)
        have hV1 : 1 ≤ V := by omega
        have hVe : (V : Int) = e4 + 1023 := by omega
        have wV : IntKind.i64.wrap (e4 - -1023) = (V : Int) := by rw [show e4 - -1023 = (V : Int) by omega]; exact IntWalk.i64_in _ (by omega)
        have wV' : IntKind.i64.wrap (e4 + 1023) = (V : Int) := by rw [show e4 + 1023 = (V : Int) by omega]; exact IntWalk.i64_in _ (by omega)
        have HV := Lib.hid hVe
        clear hV hVe
        by_cases ov : 2047 ≤ V
        · have HN2 := Lib.hid (show X = (9218868437227405312, true) by rw [HN.out, if_pos (by rw [← HV.out]; omega)])
          have t1 : decide ((2047 : Int) ≤ (V : Int)) = true := by rw [decide_eq_true_eq]; omega
          go_wp2
          refine wp_region_pur (by kernel_rfl) (by kernel_rfl) ?_
          repeat (go_big_quiet_step (fail))
          refine wpQuiet_nil ?_
          intro w5 h5
          clear z1' z2'
          have hp5 := hpC.trans h5
          have hW5 := hyC.pur h5
          have hC5 := hcC.pur h5
          go_wp2
          go_step3
          simp only [Exit.inBlock, Exit.then, Exit.two]
          refine .inr ⟨trivial, HG1.out _ _ ?_⟩
          clear HG0 HG1
          have y1' := fun y : PW w5 => (E.f.pur (Pur.trans hp5 y.pur)).c1
          have y2' := fun y : PW w5 => (E.f.pur (Pur.trans hp5 y.pur)).c2
          go_wp2
          refine wp_region_pur (by kernel_rfl) (by kernel_rfl) ?_
          repeat (go_big_quiet_step (fail))
          refine wpQuiet_nil ?_
          intro w7 h7
          clear y1' y2'
          have hp7 := Pur.trans hp5 h7
          have hW7 := hW5.pur h7
          have hC7 := Chg.pur hC5 h7
          go_wp2
          go_step3
          have z0 := (E.f.pur hp7).c0
          have z0' := fun y : PW w7 => (E.f.pur (Pur.trans hp7 y.pur)).c0
          have z1' := fun y : PW w7 => (E.f.pur (Pur.trans hp7 y.pur)).c1
          have z2' := fun y : PW w7 => (E.f.pur (Pur.trans hp7 y.pur)).c2

          have b0 : bits .and .u64 0 4503599627370495 = 0 := by decide
          have b1 : bits .and .i64 2047 2047 = 2047 := by decide
          have b2 : bits .or .u64 0 9218868437227405312 = 9218868437227405312 := by decide
          go_wp2
          refine wp_region_pur (by kernel_rfl) (by kernel_rfl) ?_
          repeat (go_big_quiet_step (fail))
          refine wpQuiet_nil ?_
          intro wo ho
          have cg8 := (hW7.pur ho).cneg
          cases ng with
          | false =>
            go_wp2
            simp only [Exit.noGoto]
            go_ret2
            rw [HN2.out]
            exact ⟨by rw [show sg false = 0 from rfl, Nat.add_zero]; try rfl, Chg.pur hC7 ho⟩
          | true =>
            have y0' := fun y : PW wo => (E.f.pur (Pur.trans (Pur.trans hp7 ho) y.pur)).c0
            have y1' := fun y : PW wo => (E.f.pur (Pur.trans (Pur.trans hp7 ho) y.pur)).c1
            have bo : bits .or .u64 9218868437227405312 9223372036854775808 = ((9218868437227405312 + sg true : Nat) : Int) := by decide
            clear z0 z0' z1' z2'
            go_wp2
            refine wp_region_pur (by kernel_rfl) (by kernel_rfl) ?_
            repeat (go_big_quiet_step (fail))
            refine wpQuiet_nil ?_
            intro wn hn
            go_wp2
            simp only [Exit.noGoto]
            go_ret2
            rw [HN2.out]
            exact ⟨rfl, Chg.pur hC7 (ho.trans hn)⟩
        · have HN2 := Lib.hid (show X = packB (rint (shl 53 Y)) e4 by rw [HN.out, if_neg (by rw [← HV.out]; omega)])
          have t1 : decide ((2047 : Int) ≤ (V : Int)) = false := by rw [decide_eq_false_iff_not]; omega
          have SL := fun (wz : World) (hz : Pur wC wz) => shl_any E.lc (hpC.trans hz) hb (hyC.pur hz) oC (k := 53) (by decide) (by decide) (by omega) (by omega)
          simp only [show ((53 : Nat) : Int) = 53 from rfl] at SL
          obtain ⟨s1, s2, s3, -⟩ := shl_says 53 oC (by decide)
          have s4 : -1000000000000000 ≤ (shl 53 Y).dp := by omega
          have s5 : (shl 53 Y).dp ≤ 1000000000000000 := by omega
          generalize shl 53 Y = z at *
          have RI := fun (wz : World) (hz : DW ng wz b z) => rint_any hz s1.nd s1.v s4 s5
          obtain ⟨m, hm⟩ : ∃ m, rint z = m := ⟨_, rfl⟩
          have ml : m < 18446744073709551616 := by
            rw [← hm]; unfold rint; split
            · decide
            · exact Nat.mod_lt _ (by decide)
          simp only [hm] at RI HN2
          have BA := u64_and_nat m 4503599627370495 ml (by decide)
          have BB := u64_and_nat m 4503599627370496 ml (by decide)
          rw [show ((4503599627370495 : Nat) : Int) = 4503599627370495 from rfl] at BA
          rw [show ((4503599627370496 : Nat) : Int) = 4503599627370496 from rfl] at BB
          obtain ⟨L, hL⟩ : ∃ L, m &&& 4503599627370495 = L := ⟨_, rfl⟩
          have Ll : L < 18446744073709551616 := by rw [← hL]; exact Nat.lt_of_le_of_lt Nat.and_le_left ml
          have Ll2 : L ≤ 4503599627370495 := by rw [← hL]; exact Nat.and_le_right
          rw [hL] at BA
          clear HN hm s2 s3 s4 s5 c1 c2
          go_wp2
          refine wp_region_pur (by kernel_rfl) (by kernel_rfl) ?_
          repeat (go_big_quiet_step (fail))
          refine wpQuiet_nil ?_
          intro w5 h5
          have SL5 := SL w5 h5
          have z0 := (E.f.pur (hpC.trans h5)).c0
          clear z1' z2' SL
          go_wp2_with fail
          refine SL5.mono ?_
          rintro e9 w6 ⟨rfl, r1, r2⟩
          have RI6 := RI w6 r1
          have hC6 := (hcC.pur h5).trans r2
          have hp6 := pur_chg hp hC6 hb
          have z06 := (E.f.pur hp6).c0
          clear RI z0
          go_wp2_with fail
          refine RI6.mono ?_
          rintro e9 w7 ⟨rfl, rfl⟩
          by_cases m2 : m = 9007199254740992
          · have t2 : ((m : Int) == 9007199254740992) = true := by rw [beq_iff_eq]; omega
            subst m2
            have z1' := fun y : PW w6 => (E.f.pur (hp6.trans y.pur)).c1
            have z2' := fun y : PW w6 => (E.f.pur (hp6.trans y.pur)).c2
            have wz1 : IntKind.i64.wrap (e4 + 1) = e4 + 1 := IntWalk.i64_in _ (by omega)
            have wz2 : IntKind.i64.wrap (e4 + 1 - -1023) = ((V + 1 : Nat) : Int) := by rw [show e4 + 1 - -1023 = ((V + 1 : Nat) : Int) by have := HV.out; omega]; exact IntWalk.i64_in _ (by omega)
            have wz3 : IntKind.i64.wrap (e4 + 1 + 1023) = ((V + 1 : Nat) : Int) := by rw [show e4 + 1 + 1023 = ((V + 1 : Nat) : Int) by have := HV.out; omega]; exact IntWalk.i64_in _ (by omega)
            obtain ⟨Vz, hVz⟩ : ∃ Vz, V + 1 = Vz := ⟨_, rfl⟩
            rw [hVz] at wz2 wz3
            by_cases ov2 : 2047 ≤ Vz
            · have HX := Lib.hid (show X = (9218868437227405312, true) by
                rw [HN2.out]; unfold packB; rw [if_pos rfl, if_pos (by have := HV.out; omega)])
              have t3 : decide ((2047 : Int) ≤ (Vz : Int)) = true := by rw [decide_eq_true_eq]; omega
              clear hVz
              go_wp2
              refine wp_region_pur (by kernel_rfl) (by kernel_rfl) ?_
              repeat (go_big_quiet_step (fail))
              refine wpQuiet_nil ?_
              intro w8 h8
              clear z1' z2'
              have hp8 := hp6.trans h8
              have hW8 := r1.pur h8
              have hC8 := hC6.pur h8
              go_wp2
              go_step3
              simp only [Exit.inBlock, Exit.then, Exit.two]
              refine .inr ⟨trivial, HG1.out _ _ ?_⟩
              clear HG0 HG1
              have y1' := fun y : PW w8 => (E.f.pur (Pur.trans hp8 y.pur)).c1
              have y2' := fun y : PW w8 => (E.f.pur (Pur.trans hp8 y.pur)).c2
              go_wp2
              refine wp_region_pur (by kernel_rfl) (by kernel_rfl) ?_
              repeat (go_big_quiet_step (fail))
              refine wpQuiet_nil ?_
              intro w7 h7
              clear y1' y2'
              have hp7 := Pur.trans hp8 h7
              have hW7 := hW8.pur h7
              have hC7 := Chg.pur hC8 h7
              go_wp2
              go_step3
              have z0 := (E.f.pur hp7).c0
              have z0' := fun y : PW w7 => (E.f.pur (Pur.trans hp7 y.pur)).c0
              have z1' := fun y : PW w7 => (E.f.pur (Pur.trans hp7 y.pur)).c1
              have z2' := fun y : PW w7 => (E.f.pur (Pur.trans hp7 y.pur)).c2

              have b0 : bits .and .u64 0 4503599627370495 = 0 := by decide
              have b1 : bits .and .i64 2047 2047 = 2047 := by decide
              have b2 : bits .or .u64 0 9218868437227405312 = 9218868437227405312 := by decide
              go_wp2
              refine wp_region_pur (by kernel_rfl) (by kernel_rfl) ?_
              repeat (go_big_quiet_step (fail))
              refine wpQuiet_nil ?_
              intro wo ho
              have cg8 := (hW7.pur ho).cneg
              cases ng with
              | false =>
                go_wp2
                simp only [Exit.noGoto]
                go_ret2
                rw [HX.out]
                exact ⟨by rw [show sg false = 0 from rfl, Nat.add_zero]; try rfl, Chg.pur hC7 ho⟩
              | true =>
                have y0' := fun y : PW wo => (E.f.pur (Pur.trans (Pur.trans hp7 ho) y.pur)).c0
                have y1' := fun y : PW wo => (E.f.pur (Pur.trans (Pur.trans hp7 ho) y.pur)).c1
                have bo : bits .or .u64 9218868437227405312 9223372036854775808 = ((9218868437227405312 + sg true : Nat) : Int) := by decide
                clear z0 z0' z1' z2'
                go_wp2
                refine wp_region_pur (by kernel_rfl) (by kernel_rfl) ?_
                repeat (go_big_quiet_step (fail))
                refine wpQuiet_nil ?_
                intro wn hn
                go_wp2
                simp only [Exit.noGoto]
                go_ret2
                rw [HX.out]
                exact ⟨rfl, Chg.pur hC7 (ho.trans hn)⟩
            · have hX0 : X = packB.fin 4503599627370496 (e4 + 1) := by
                rw [HN2.out]; unfold packB; rw [if_pos rfl, if_neg (by have := HV.out; omega)]
              have hX1 : X = (Vz * 4503599627370496, false) := by
                rw [hX0]; unfold packB.fin
                rw [if_neg (by decide), show (e4 + 1 + 1023).toNat % 2048 = Vz by have := HV.out; omega, show (4503599627370496 &&& 4503599627370495 : Nat) = 0 by decide, Nat.zero_or]
              have HX := Lib.hid hX1
              have t3 : decide ((2047 : Int) ≤ (Vz : Int)) = false := by rw [decide_eq_false_iff_not]; omega
              have bz : bits .and .u64 4503599627370496 4503599627370496 = 4503599627370496 := by decide
              have bv : bits .and .i64 (Vz : Int) 2047 = (Vz : Int) := by
                have := bits_mask .i64 63 (by decide) (fun n h0 h1 => IntWalk.i64_in _ (by omega)) 11 (by decide) (Vz : Int) (by omega) (by omega)
                rw [show ((2 : Int) ^ 11 - 1) = 2047 from rfl] at this
                rw [this]; omega
              have bc : IntKind.u64.wrap (Vz : Int) = (Vz : Int) := IntWalk.u64_in _ (by omega)
              have bs : IntKind.u64.wrap ((Vz : Int) * 4503599627370496) = (Vz : Int) * 4503599627370496 := IntWalk.u64_in _ (by omega)
              have bw : bits .or .u64 0 ((Vz : Int) * 4503599627370496) = (Vz : Int) * 4503599627370496 := by
                have := u64_or_nat 0 (Vz * 4503599627370496) (by decide) (by omega)
                rw [Nat.zero_or, show ((Vz * 4503599627370496 : Nat) : Int) = (Vz : Int) * 4503599627370496 by omega] at this
                exact this
              have b0 : bits .and .u64 4503599627370496 4503599627370495 = 0 := by decide
              clear hVz hX0 hX1
              go_wp2
              refine wp_region_pur (by kernel_rfl) (by kernel_rfl) ?_
              repeat (go_big_quiet_step (fail))
              refine wpQuiet_nil ?_
              intro w8 h8
              clear z1' z2'
              have hp8 := hp6.trans h8
              have hW8 := r1.pur h8
              have hC8 := hC6.pur h8
              have z08 := (E.f.pur hp8).c0
              go_wp2
              go_step3
              simp only [Exit.inBlock, Exit.then, Exit.two]
              refine .inl ⟨trivial, HG0.out _ _ ?_⟩
              clear HG0 HG1 z08
              have z0 := (E.f.pur hp8).c0
              have z0' := fun y : PW w8 => (E.f.pur (Pur.trans hp8 y.pur)).c0
              have z1' := fun y : PW w8 => (E.f.pur (Pur.trans hp8 y.pur)).c1
              have z2' := fun y : PW w8 => (E.f.pur (Pur.trans hp8 y.pur)).c2
              skip
              go_wp2
              refine wp_region_pur (by kernel_rfl) (by kernel_rfl) ?_
              repeat (go_big_quiet_step (fail))
              refine wpQuiet_nil ?_
              intro wo ho
              have cg8 := (hW8.pur ho).cneg
              cases ng with
              | false =>
                go_wp2
                simp only [Exit.noGoto]
                go_ret2
                rw [HX.out]
                exact ⟨by rw [show sg false = 0 from rfl, Nat.add_zero]; try rfl, Chg.pur hC8 ho⟩
              | true =>
                have y0' := fun y : PW wo => (E.f.pur (Pur.trans (Pur.trans hp8 ho) y.pur)).c0
                have y1' := fun y : PW wo => (E.f.pur (Pur.trans (Pur.trans hp8 ho) y.pur)).c1
                have bo : bits .or .u64 ((Vz : Int) * 4503599627370496) 9223372036854775808 = ((Vz * 4503599627370496 + sg true : Nat) : Int) := by
                  have := or_sign (Vz * 4503599627370496) (by omega)
                  rw [show ((Vz * 4503599627370496 : Nat) : Int) = (Vz : Int) * 4503599627370496 by omega] at this
                  exact this
                clear z0 z0' z1' z2'
                go_wp2
                refine wp_region_pur (by kernel_rfl) (by kernel_rfl) ?_
                repeat (go_big_quiet_step (fail))
                refine wpQuiet_nil ?_
                intro wn hn
                go_wp2
                simp only [Exit.noGoto]
                go_ret2
                rw [HX.out]
                exact ⟨rfl, Chg.pur hC8 (ho.trans hn)⟩
          · have t2 : ((m : Int) == 9007199254740992) = false := by rw [beq_eq_false_iff_ne]; omega
            have hX0 : X = packB.fin m e4 := by
              rw [HN2.out]; unfold packB; rw [if_neg m2]
            have z26 := (E.f.pur hp6).c2
            by_cases dn : m &&& 4503599627370496 = 0
            · have hX1 : X = (L, false) := by
                rw [hX0]; unfold packB.fin
                rw [if_pos dn, hL, Nat.or_zero]
              have HX := Lib.hid hX1
              have BB0 : bits .and .u64 (m : Int) 4503599627370496 = 0 := by rw [BB, dn]; rfl
              have b1 : bits .and .i64 0 2047 = 0 := by decide
              have b2 : bits .or .u64 (L : Int) 0 = (L : Int) := by
                have := u64_or_nat L 0 Ll (by decide)
                rw [Nat.or_zero] at this
                exact this
              clear hX0 hX1 dn BB m2 hL
              go_wp2
              go_step3
              simp only [Exit.inBlock, Exit.then, Exit.two]
              refine .inl ⟨trivial, HG0.out _ _ ?_⟩
              clear HG0 HG1 z06 z26
              have z0 := (E.f.pur hp6).c0
              have z0' := fun y : PW w6 => (E.f.pur (Pur.trans hp6 y.pur)).c0
              have z1' := fun y : PW w6 => (E.f.pur (Pur.trans hp6 y.pur)).c1
              have z2' := fun y : PW w6 => (E.f.pur (Pur.trans hp6 y.pur)).c2
              skip
              go_wp2
              refine wp_region_pur (by kernel_rfl) (by kernel_rfl) ?_
              repeat (go_big_quiet_step (fail))
              refine wpQuiet_nil ?_
              intro wo ho
              have cg8 := (r1.pur ho).cneg
              cases ng with
              | false =>
                go_wp2
                simp only [Exit.noGoto]
                go_ret2
                rw [HX.out]
                exact ⟨by rw [show sg false = 0 from rfl, Nat.add_zero]; try rfl, Chg.pur hC6 ho⟩
              | true =>
                have y0' := fun y : PW wo => (E.f.pur (Pur.trans (Pur.trans hp6 ho) y.pur)).c0
                have y1' := fun y : PW wo => (E.f.pur (Pur.trans (Pur.trans hp6 ho) y.pur)).c1
                have bo : bits .or .u64 (L : Int) 9223372036854775808 = ((L + sg true : Nat) : Int) := or_sign L (by omega)
                clear z0 z0' z1' z2'
                go_wp2
                refine wp_region_pur (by kernel_rfl) (by kernel_rfl) ?_
                repeat (go_big_quiet_step (fail))
                refine wpQuiet_nil ?_
                intro wn hn
                go_wp2
                simp only [Exit.noGoto]
                go_ret2
                rw [HX.out]
                exact ⟨rfl, Chg.pur hC6 (ho.trans hn)⟩
            · obtain ⟨Q, hQ⟩ : ∃ Q, m &&& 4503599627370496 = Q := ⟨_, rfl⟩
              rw [hQ] at BB
              have d3 : ((Q : Int) == 0) = false := by rw [beq_eq_false_iff_ne]; omega
              have hX1 : X = ((L ||| V * 4503599627370496), false) := by
                rw [hX0]; unfold packB.fin
                rw [if_neg dn, hL, show (e4 + 1023).toNat % 2048 = V by have := HV.out; omega]
              have HX := Lib.hid hX1
              have bv : bits .and .i64 (V : Int) 2047 = (V : Int) := by
                have := bits_mask .i64 63 (by decide) (fun n h0 h1 => IntWalk.i64_in _ (by omega)) 11 (by decide) (V : Int) (by omega) (by omega)
                rw [show ((2 : Int) ^ 11 - 1) = 2047 from rfl] at this
                rw [this]; omega
              have bc : IntKind.u64.wrap (V : Int) = (V : Int) := IntWalk.u64_in _ (by omega)
              have bs : IntKind.u64.wrap ((V : Int) * 4503599627370496) = (V : Int) * 4503599627370496 := IntWalk.u64_in _ (by omega)
              have bw : bits .or .u64 (L : Int) ((V : Int) * 4503599627370496) = ((L ||| V * 4503599627370496 : Nat) : Int) := by
                have := u64_or_nat L (V * 4503599627370496) Ll (by omega)
                rw [← this, show ((V * 4503599627370496 : Nat) : Int) = (V : Int) * 4503599627370496 by omega]
              clear hX0 hX1 dn m2 hL hQ
              go_wp2
              go_step3
              simp only [Exit.inBlock, Exit.then, Exit.two]
              refine .inl ⟨trivial, HG0.out _ _ ?_⟩
              clear HG0 HG1 z06 z26
              have z0 := (E.f.pur hp6).c0
              have z0' := fun y : PW w6 => (E.f.pur (Pur.trans hp6 y.pur)).c0
              have z1' := fun y : PW w6 => (E.f.pur (Pur.trans hp6 y.pur)).c1
              have z2' := fun y : PW w6 => (E.f.pur (Pur.trans hp6 y.pur)).c2
              skip
              go_wp2
              refine wp_region_pur (by kernel_rfl) (by kernel_rfl) ?_
              repeat (go_big_quiet_step (fail))
              refine wpQuiet_nil ?_
              intro wo ho
              have cg8 := (r1.pur ho).cneg
              cases ng with
              | false =>
                go_wp2
                simp only [Exit.noGoto]
                go_ret2
                rw [HX.out]
                exact ⟨by rw [show sg false = 0 from rfl, Nat.add_zero]; try rfl, Chg.pur hC6 ho⟩
              | true =>
                have y0' := fun y : PW wo => (E.f.pur (Pur.trans (Pur.trans hp6 ho) y.pur)).c0
                have y1' := fun y : PW wo => (E.f.pur (Pur.trans (Pur.trans hp6 ho) y.pur)).c1
                have bo : bits .or .u64 ((L ||| V * 4503599627370496 : Nat) : Int) 9223372036854775808 = (((L ||| V * 4503599627370496) + sg true : Nat) : Int) := or_sign _ (Nat.or_lt_two_pow (n := 63) (by omega) (by omega))
                clear z0 z0' z1' z2'
                go_wp2
                refine wp_region_pur (by kernel_rfl) (by kernel_rfl) ?_
                repeat (go_big_quiet_step (fail))
                refine wpQuiet_nil ?_
                intro wn hn
                go_wp2
                simp only [Exit.noGoto]
                go_ret2
                rw [HX.out]
                exact ⟨rfl, Chg.pur hC6 (ho.trans hn)⟩
end Dc
end Go.Proofs.YtapgibcdbggpkaaGreatDoor
namespace Go.Proofs.YtapgibcdbggpkaaGreatDoor
open Go Go.RowKit
set_option linter.all false
namespace Dc
variable {ng : Bool}
theorem SI.mk0 {s : Rf.Rs} {x : Dec} (h : SI s x) : (s.nd = 0 ↔ x.nd = 0) ∧ x.nd ≤ 800 ∧ x.nd ≤ s.nd := by have := h.nd; omega
theorem SI.start_at (st : Nat) : SI (Rf.start st) zero := ⟨SI.start.b, SI.start.nd, SI.start.v, SI.start.d0, SI.start.m0, SI.start.nm, Nat.zero_le _, by show -(st : Int) ≤ 0; omega, SI.start.dph⟩
/-- the decimal that a text from place st on says -/
def setDs (l : List UInt8) (st : Nat) : Dec :=
  let r := setGo l (l.length + 1) (Rf.start st) zero
  ⟨r.2.D, r.2.nd, (if r.1.dot then r.2.dp else (r.2.nd : Int)) + Rf.exPart l r.1.i, r.2.tr⟩
/-- a sign ahead, or none -/
def Sgn (l : List UInt8) (st : Nat) (ng : Bool) : Prop := st = 0 ∧ ng = false ∧ by8 l 0 ≠ 43 ∧ by8 l 0 ≠ 45 ∨ st = 1 ∧ (ng = false ∧ by8 l 0 = 43 ∨ ng = true ∧ by8 l 0 = 45)
set_option maxRecDepth 100000 in
set_option maxHeartbeats 32000000 in
theorem set_any {w : World} {b : Nat} {l : List UInt8} (st : Nat) (h : DW false w b zero) (hl : l.length ≤ 1000000) (h0 : 0 < l.length) (hU : ∀ i, by8 l i ≠ 95) (hW : Rf.Whole l false st) (p : Sgn l st ng) :
    Calls Tryz.prog 165 #[.pointer (some ⟨b, 0, none⟩), .string ⟨l.toArray⟩] w fun e w' => e = .returned (.bool true) ∧ DW ng w' b (setDs l st) ∧ Chg [b] w w' := by
  have hb0 := by8_lt l 0
  have hst : st ≤ l.length := by rcases p with ⟨rfl, -⟩ | ⟨rfl, -⟩ <;> omega
  have h0' : (0 : Int) < l.length := by omega
  have hne : ¬ l = [] := by intro e; rw [e] at h0; simp at h0
  obtain ⟨Z, hZ⟩ : ∃ Z, setGo l (l.length + 1) (Rf.start st) zero = Z := ⟨_, rfl⟩
  have hS : Z.1 = Rf.digs l false st := by rw [← hZ, setGo_go]; rfl
  have hsi := setGo_si l (l.length + 1) _ _ (SI.start_at st)
  rw [hZ] at hsi
  have hdl := (Rf.go_inv l false (l.length + 1) (Rf.start st) (Rf.start_inv _ _)).2 hst
  rw [show Rf.go l false (l.length + 1) (Rf.start st) = Rf.digs l false st from rfl, ← hS] at hdl
  obtain ⟨hdig, hend⟩ := hW
  rw [← hS] at hdig hend
  have HX := Lib.hid (show setDs l st = ⟨Z.2.D, Z.2.nd, (if Z.1.dot then Z.2.dp else (Z.2.nd : Int)) + Rf.exPart l Z.1.i, Z.2.tr⟩ by unfold setDs; rw [hZ])
  generalize setDs l st = X at *
  have HZ := Lib.hid (show Z = setGo l (l.length + 1) (Rf.start st) zero from hZ.symm)
  have HE := Lib.hid hend
  clear hZ hS hend
  have c2 := h.cneg
  have f2 := h.free 802
  have h1 := h.setneg false
  have c3 := h1.ctr
  have f3 := h1.free 803
  have h2 := h1.settr false
  have g2 := (chg_set w b 802 (.bool false)).trans (chg_set _ b 803 (.bool false))
  clear hb0
  rw [show (⟨zero.D, zero.nd, zero.dp, false⟩ : Dec) = zero from rfl] at h2
  go_enter Tryz.func165, Tryz.ntmps165
  go_upto_block 0 with (fail)
  go_cut [5] from 23 to 33 (fun i wx => i = .int .i64 (st : Int) ∧ DW ng wx b zero ∧ Chg [b] w wx)
  case first =>
    clear HX HZ HE hsi hdl hdig
    rcases p with ⟨rfl, rfl, p1, p2⟩ | ⟨rfl, p⟩
    · have q1 : ((by8 l 0 : Int) == 43) = false := by rw [beq_eq_false_iff_ne]; omega
      have q2 : ((by8 l 0 : Int) == 45) = false := by rw [beq_eq_false_iff_ne]; omega
      clear p1 p2
      go_wp2
      go_meet
      exact ⟨rfl, h2, g2⟩
    · rcases p with ⟨rfl, p1⟩ | ⟨rfl, p1⟩
      · have q1 : ((by8 l 0 : Int) == 43) = true := by rw [beq_iff_eq]; omega
        clear p1
        go_wp2
        go_meet
        exact ⟨rfl, h2, g2⟩
      · have q1 : ((by8 l 0 : Int) == 43) = false := by rw [beq_eq_false_iff_ne]; omega
        have q2 : ((by8 l 0 : Int) == 45) = true := by rw [beq_iff_eq]; omega
        have f4 := h2.free 802
        have c4 := h2.cneg
        have h3 := h2.setneg true
        have g3 := g2.trans (chg_set _ b 802 (.bool true))
        clear p1
        go_wp2
        go_meet
        exact ⟨rfl, h3, g3⟩
  case rest =>
  clear h1 h2 g2 c2 f2 c3 f3 h p
  obtain ⟨rfl, h2, g2⟩ := hcut
  go_upto_block 1 with (fail)
  go_cut [5, 6, 7] from 34 to 116 (fun i dt dg wx => i = .int .i64 (Z.1.i : Int) ∧ dt = .bool Z.1.dot ∧ dg = .bool true ∧ DW ng wx b Z.2 ∧ Chg [b] w wx)
  case first =>
    clear HX
    go_wp2_with fail
    go_loopw [5, 6, 7] (fun i dt dg wr => ∃ (s : Rf.Rs) (x : Dec) (f : Nat), i = .int .i64 (s.i : Int) ∧ dt = .bool s.dot ∧ dg = .bool s.dig ∧ s.i ≤ l.length ∧ l.length < s.i + f ∧ SI s x ∧ DW ng wr b x ∧ Chg [b] w wr ∧ Hid (Z = setGo l f s x)) (fun i _ _ _ => l.length + 1 - (intOf i).toNat)
    case atStart => exact ⟨Rf.start st, zero, l.length + 1, rfl, rfl, rfl, hst, by show l.length < st + _; omega, SI.start_at st, h2, g2, HZ⟩
    case round =>
      obtain ⟨⟨i, mant, nd, nm, dp, dt, dg, tr⟩, x, f, rfl, rfl, rfl, i1, i2, hI, hw, hg, H⟩ := hrel
      have hk := hI.mk0
      have hk8 := hI.dpl
      have hk9 := hI.dph
      simp only at i1 i2 hk hk8
      clear HZ h2 g2
      obtain ⟨f, rfl⟩ : ∃ g, f = g + 1 := ⟨f - 1, by omega⟩
      have wi : IntKind.i64.wrap ((i : Int) + 1) = (i : Int) + 1 := IntWalk.i64_in _ (by omega)
      by_cases hlt : i < l.length
      · have hlt' : (i : Int) < l.length := by omega
        have HG := Lib.hid (show Z = (match Rf.step false (by8 l i) ⟨i, mant, nd, nm, dp, dt, dg, tr⟩ with | some t => setGo l f t (put1 (by8 l i) x) | none => (⟨i, mant, nd, nm, dp, dt, dg, tr⟩, x)) by rw [H.out, setGo, if_pos hlt]; rfl)
        have hb := by8_lt l i
        have hu := hU i
        clear H
        have hd95 : (((by8 l i) : Int) == 95) = false := by rw [beq_eq_false_iff_ne]; omega
        clear hU hu
        have cn := hw.cnd
        have cp := hw.cdp
        have ct := hw.ctr
        have fp := hw.free 801
        have fn := hw.free 800
        have ft := hw.free 803
        obtain ⟨D, xn, xp, xt⟩ := x
        simp only at cn cp ct hk hk8 hk9
        by_cases h46 : (by8 l i) = 46
        · have d46 : ((by8 l i : Int) == 46) = true := by rw [beq_iff_eq]; omega
          rcases dt with _ | _
          · have hw2 := hw.setdp (xn : Int)
            have hg2 := hg.trans (chg_set wr b 801 (.int .i64 (xn : Int)))
            have HN := Lib.hid (show Z = setGo l f ⟨i + 1, mant, nd, nm, nd, true, dg, tr⟩ ⟨D, xn, xn, xt⟩ by rw [HG.out, h46, Rf.step_dot]; rfl)
            have hI2 := hI.step (show 46 < 256 by decide) (Rf.step_dot (hex := false) (i := i) (m := mant) (nd := nd) (nm := nm) (dp := dp) (dg := dg) (tr := tr))
            rw [show put1 46 ⟨D, xn, xp, xt⟩ = ⟨D, xn, xn, xt⟩ from rfl] at hI2
            clear HG hI h46 HE
            go_wp2
            go_roundw
            case rel => exact ⟨⟨i + 1, mant, nd, nm, nd, true, dg, tr⟩, ⟨D, xn, xn, xt⟩, f, by go_num, rfl, rfl, by show i + 1 ≤ _; omega, by show _ < i + 1 + f; omega, hI2, hw2, hg2, HN⟩
            case measure => simp [intOf]; omega
          · exfalso
            have hSS : Z.1 = ⟨i, mant, nd, nm, dp, true, dg, tr⟩ := by rw [HG.out, h46, Rf.step_dot2]
            rcases HE.out with ⟨h, -⟩ | ⟨h1, h2, -⟩
            · rw [hSS] at h; simp only at h; omega
            · rw [hSS] at h2; simp only at h2; rw [h46] at h2; revert h2; decide
        have d46 : (((by8 l i) : Int) == 46) = false := by rw [beq_eq_false_iff_ne]; omega
        rcases hdg : Rf.digC (by8 l i) with _ | _
        · have hdd : (decide ((48 : Int) ≤ ((by8 l i) : Int)) && decide (((by8 l i) : Int) ≤ 57)) = false := by
            rw [← hdg]; simp only [Rf.digC]; congr 1 <;> rw [decide_eq_decide] <;> omega
          have HN := Lib.hid (show Z = (⟨i, mant, nd, nm, dp, dt, dg, tr⟩, ⟨D, xn, xp, xt⟩) by rw [HG.out, Rf.step_none h46 hdg rfl])
          have hdg2 : dg = true := by rw [HN.out] at hdig; exact hdig
          subst hdg2
          clear HG hI HE hdg hdig
          rcases o3 : decide ((48 : Int) ≤ ((by8 l i) : Int)) with _ | _ <;> rcases o4 : decide (((by8 l i) : Int) ≤ 57) with _ | _
          all_goals
            rw [o3, o4] at hdd
            first
              | exact absurd hdd (by decide)
              | (skip
                 clear hdd
                 go_wp2
                 go_meet
                 rw [HN.out]
                 exact ⟨rfl, rfl, rfl, hw, hg⟩)
        · have hdd := hdg
          simp only [Rf.digC, Bool.and_eq_true, decide_eq_true_eq] at hdd
          have o3 : decide ((48 : Int) ≤ ((by8 l i) : Int)) = true := by rw [decide_eq_true_eq]; omega
          have o4 : decide (((by8 l i) : Int) ≤ 57) = true := by rw [decide_eq_true_eq]; omega
          by_cases hz : (by8 l i) = 48 ∧ nd = 0
          · obtain ⟨h48, rfl⟩ := hz
            obtain rfl : xn = 0 := by omega
            have d48 : ((by8 l i : Int) == 48) = true := by rw [beq_iff_eq]; omega
            have wp : IntKind.i64.wrap (xp - 1) = xp - 1 := IntWalk.i64_in _ (by omega)
            have hw2 := hw.setdp (xp - 1)
            have hg2 := hg.trans (chg_set wr b 801 (.int .i64 (xp - 1)))
            have HN := Lib.hid (show Z = setGo l f ⟨i + 1, mant, 0, nm, dp - 1, dt, true, tr⟩ ⟨D, 0, xp - 1, xt⟩ by rw [HG.out, h48, Rf.step_zero]; rfl)
            have hI2 := hI.step (show 48 < 256 by decide) (Rf.step_zero (hex := false) (i := i) (m := mant) (nm := nm) (dp := dp) (dt := dt) (dg := dg) (tr := tr))
            rw [show put1 48 ⟨D, 0, xp, xt⟩ = ⟨D, 0, xp - 1, xt⟩ from rfl] at hI2
            clear HG hI HE hdg hdd h48 h46
            go_wp2
            go_roundw
            case rel => exact ⟨⟨i + 1, mant, 0, nm, dp - 1, dt, true, tr⟩, ⟨D, 0, xp - 1, xt⟩, f, by go_num, rfl, rfl, by show i + 1 ≤ _; omega, by show _ < i + 1 + f; omega, hI2, hw2, hg2, HN⟩
            case measure => simp [intOf]; omega
          · have hz2 : (((by8 l i) : Int) == 48) = ((by8 l i) == 48) := by rw [Bool.eq_iff_iff, beq_iff_eq, beq_iff_eq]; omega
            have hz3 : ((by8 l i) == 48) = true → ((xn : Int) == 0) = false := fun h => by rw [beq_iff_eq] at h; rw [beq_eq_false_iff_ne]; omega
            have hz4 : ((by8 l i) == 48) = true → 0 < xn := fun h => by rw [beq_iff_eq] at h; omega
            obtain ⟨t, ht⟩ : ∃ t, Rf.step false (by8 l i) ⟨i, mant, nd, nm, dp, dt, dg, tr⟩ = some t := by
              by_cases hn : nm < 19
              · exact ⟨_, Rf.step_dig hdg hz hn⟩
              · exact ⟨_, Rf.step_over hdg hz hn⟩
            have ht2 : t.i = i + 1 ∧ t.dot = dt ∧ t.dig = true := by
              by_cases hn : nm < 19
              · rw [Rf.step_dig hdg hz hn] at ht; cases ht; exact ⟨rfl, rfl, rfl⟩
              · rw [Rf.step_over hdg hz hn] at ht; cases ht; exact ⟨rfl, rfl, rfl⟩
            have HN0 := Lib.hid (show Z = setGo l f t (put1 (by8 l i) ⟨D, xn, xp, xt⟩) by rw [HG.out, ht])
            have hI2 := hI.step hb ht
            obtain ⟨ti, tm, tnd, tnm, tdp, tdt, tdg, ttr⟩ := t
            simp only at ht2
            obtain ⟨rfl, rfl, rfl⟩ := ht2
            by_cases hn : xn < 800
            · have hn' : (xn : Int) < 800 := by omega
              have hn0 : (0 : Int) ≤ (xn : Int) := by omega
              have hput : put1 (by8 l i) ⟨D, xn, xp, xt⟩ = ⟨D.set xn (by8 l i), xn + 1, xp, xt⟩ := by
                unfold put1; rw [if_neg h46, if_neg (by simp only; omega), if_pos (by simp only; exact hn)]
              rw [hput] at hI2
              have HN := Lib.hid (HN0.out.trans (by rw [hput]))
              have cn' := fun v : PW wr => (hw.pur v.pur).cnd
              simp only at cn'
              have wn : IntKind.i64.wrap ((xn : Int) + 1) = ((xn + 1 : Nat) : Int) := by rw [show (xn : Int) + 1 = ((xn + 1 : Nat) : Int) by omega]; exact IntWalk.i64_in _ (by omega)
              clear HG hI HE hdg hz HN0 hput ht h46
              rcases hz5 : ((by8 l i) == 48) with _ | _
              all_goals
                rw [hz5] at hz2 hz3 hz4
                first
                  | (have hz6 := hz3 rfl; have hz7 := hz4 rfl)
                  | skip
                clear hz3 hz4 hz5
                go_wp2
                refine wp_region_pur_tail 11 (by kernel_rfl) (by kernel_rfl) ?_
                simp only [List.take_succ_cons, List.take_zero, List.drop_succ_cons, List.drop_zero]
                repeat (go_big_quiet_step (fail))
                refine wpQuiet_nil ?_
                intro wq hq
                have hq1 := hw.pur hq
                have cq := hq1.cd (i := xn) hn
                have fq := hq1.free xn
                have hq2 := hq1.setd (i := xn) hn hb
                have cq2 := hq2.cnd
                have fq2 := hq2.free 800
                have hq3 := hq2.setnd (xn + 1)
                have gq := ((hg.pur hq).trans (chg_set wq b xn (.int .u8 (by8 l i : Int)))).trans (chg_set _ b 800 (.int .i64 ((xn + 1 : Nat) : Int)))
                simp only at cq cq2 hq3
                go_wp2
                go_roundw
                case rel => exact ⟨⟨i + 1, tm, tnd, tnm, tdp, tdt, true, ttr⟩, ⟨D.set xn (by8 l i), xn + 1, xp, xt⟩, f, by go_num, rfl, rfl, by show i + 1 ≤ _; omega, by show _ < i + 1 + f; omega, hI2, hq3, gq, HN⟩
                case measure => simp [intOf]; omega
            · have hn' : ¬ (xn : Int) < 800 := by omega
              have hput : put1 (by8 l i) ⟨D, xn, xp, xt⟩ = ⟨D, xn, xp, xt || !((by8 l i) == 48)⟩ := by
                unfold put1; rw [if_neg h46, if_neg (by simp only; omega), if_neg (by simp only; exact hn)]
              rw [hput] at hI2
              have HN := Lib.hid (HN0.out.trans (by rw [hput]))
              have hz8 : (((by8 l i) : Int) != 48) = !((by8 l i) == 48) := by rw [← hz2]; rfl
              clear HG hI HE hdg hz HN0 hput ht h46
              rcases hz5 : ((by8 l i) == 48) with _ | _
              · rw [hz5] at hz2 hz8 HN hI2
                simp only [Bool.not_false, Bool.or_true] at hz8 HN hI2
                have hw2 := hw.settr true
                have hg2 := hg.trans (chg_set wr b 803 (.bool true))
                simp only at hw2
                clear hz3 hz4 hz5
                go_wp2
                go_roundw
                case rel => exact ⟨⟨i + 1, tm, tnd, tnm, tdp, tdt, true, ttr⟩, ⟨D, xn, xp, true⟩, f, by go_num, rfl, rfl, by show i + 1 ≤ _; omega, by show _ < i + 1 + f; omega, hI2, hw2, hg2, HN⟩
                case measure => simp [intOf]; omega
              · rw [hz5] at hz2 hz8 HN hI2
                have hz6 := hz3 hz5
                have hz7 := hz4 hz5
                simp only [Bool.not_true, Bool.or_false] at hz8 HN hI2
                clear hz3 hz4 hz5
                go_wp2
                go_roundw
                case rel => exact ⟨⟨i + 1, tm, tnd, tnm, tdp, tdt, true, ttr⟩, ⟨D, xn, xp, xt⟩, f, by go_num, rfl, rfl, by show i + 1 ≤ _; omega, by show _ < i + 1 + f; omega, hI2, hw, hg, HN⟩
                case measure => simp [intOf]; omega
      · have HN := Lib.hid (show Z = (⟨i, mant, nd, nm, dp, dt, dg, tr⟩, x) by rw [H.out, setGo, if_neg hlt])
        have hlt' : ¬ (i : Int) < l.length := by omega
        have hdg2 : dg = true := by rw [HN.out] at hdig; exact hdig
        subst hdg2
        clear H hI hU HE hdig
        go_wp2
        go_meet
        rw [HN.out]
        exact ⟨rfl, rfl, rfl, hw, hg⟩
  case rest =>
    obtain ⟨rfl, rfl, rfl, hw, hg⟩ := hcut
    clear HZ h2 g2 hU hdig
    obtain ⟨S, xx⟩ := Z
    obtain ⟨D, xn, xp, xt⟩ := xx
    have hk := hsi.mk0
    have k8 := hsi.dpl
    have k9 := hsi.dph
    simp only at HX HE hw hdl hk k8 k9
    obtain ⟨Q, hQ⟩ : ∃ Q, (if S.dot then xp else (xn : Int)) = Q := ⟨_, rfl⟩
    rw [hQ] at HX
    have Q1 : -(S.i : Int) ≤ Q ∧ Q ≤ 800 := by rw [← hQ]; split <;> omega
    obtain ⟨dt, hdt⟩ : ∃ dt, S.dot = dt := ⟨_, rfl⟩
    rw [hdt] at hQ
    have HQ := Lib.hid hQ
    clear hQ hsi
    have Ie : ∀ v, Value.bool S.dot = v → v = .bool dt := fun v h => by rw [← h, hdt]
    clear Ie
    go_upto_region 30 with (fail)
    go_cut [120] from 119 to 120 (fun v wx => v = .bool (!dt) ∧ DW ng wx b ⟨D, xn, xp, xt⟩ ∧ Chg [b] w wx)
    case first =>
      clear HX HE
      go_wp2
      go_meet
      exact ⟨rfl, hw, hg⟩
    case rest =>
      clear hw hg
      obtain ⟨rfl, hw, hg⟩ := hcut
      go_upto_if 120 with (fail)
      go_cut [121] from 121 to 127 (fun v wx => DW ng wx b ⟨D, xn, Q, xt⟩ ∧ Chg [b] w wx)
      case first =>
        clear HX HE hdt
        have cn := hw.cnd
        have cp := hw.cdp
        have fp := hw.free 801
        have hw2 := hw.setdp (xn : Int)
        simp only at cn cp hw2
        have hg2 := hg.trans (chg_set _ b 801 (.int .i64 (xn : Int)))
        rcases dt with _ | _
        · have e : (xn : Int) = Q := by have := HQ.out; simpa using this
          have HW3 := Lib.hid (show DW ng (_) b ⟨D, xn, Q, xt⟩ by rw [← e]; exact hw2)
          clear e HQ hw2
          go_wp2
          go_meet
          exact ⟨HW3.out, hg2⟩
        · have e : xp = Q := by have := HQ.out; simpa using this
          rw [e] at hw
          have HW3 := Lib.hid hw
          clear e HQ hw hw2 hg2
          go_wp2
          go_meet
          exact ⟨HW3.out, hg⟩
      case rest =>
        clear hw hg
        obtain ⟨hw, hg⟩ := hcut
        clear HQ hdt k8 k9 hk
        rcases HE.out with ⟨hend, -⟩ | ⟨hM, hM2, hM3, hM4⟩
        · have hend' : ¬ (S.i : Int) < l.length := by omega
          have HX2 := Lib.hid (show X = ⟨D, xn, Q, xt⟩ by rw [HX.out, show Rf.exPart l S.i = 0 from if_neg (by omega), Int.add_zero])
          have de : ((S.i : Int) != (l.length : Int)) = false := by rw [bne_eq_false_iff_eq]; omega
          have HI := Lib.hid hend
          clear HX HE hend
          go_wp2
          go_ret
          rw [HX2.out]
          exact ⟨rfl, hw, hg⟩
        · have hM' : (S.i : Int) < l.length := by omega
          have hbM := by8_lt l S.i
          have LWm := fun w => Rf.lower_any (by8 l S.i) w hbM
          rw [show by8 l S.i ||| 32 = 101 from hM2] at LWm
          have hbS := by8_lt l (S.i + 1)
          have w5 : IntKind.i64.wrap ((S.i : Int) + 1) = (S.i : Int) + 1 := IntWalk.i64_in _ (by omega)
          have w6 : IntKind.i64.wrap ((S.i : Int) + 1 + 1) = (S.i : Int) + 2 := by rw [show (S.i : Int) + 1 + 1 = (S.i : Int) + 2 by omega]; exact IntWalk.i64_in _ (by omega)
          have w7 : IntKind.i64.wrap ((S.i : Int) + 2) = (S.i : Int) + 2 := IntWalk.i64_in _ (by omega)
          have n1 : ((S.i : Int) + 1).toNat = S.i + 1 := by omega
          have hA0 : S.i + 1 ≤ Rf.exAt l S.i ∧ Rf.exAt l S.i ≤ S.i + 2 := by unfold Rf.exAt; split <;> omega
          have hM5 : (S.i : Int) + 1 < l.length := by omega
          have hM6 : ¬ (l.length : Int) ≤ (S.i : Int) + 1 := by omega
          obtain ⟨E, hE⟩ : ∃ E, Rf.exGo l (l.length + 1) (Rf.exAt l S.i) 0 = E := ⟨_, rfl⟩
          have hEl := Rf.exGo_lt l (l.length + 1) (Rf.exAt l S.i) 0 (by omega) hM4
          rw [hE] at hEl
          have hdA := hM4 (Rf.exAt l S.i) (Nat.le_refl _) hM3
          simp only [Rf.digC, Bool.and_eq_true, decide_eq_true_eq] at hdA
          have hdk : Hid (∀ k, Rf.exAt l S.i ≤ k → k < l.length → 48 ≤ by8 l k ∧ by8 l k ≤ 57) := Lib.hid (fun k h1 h2 => by have := hM4 k h1 h2; simpa only [Rf.digC, Bool.and_eq_true, decide_eq_true_eq] using this)
          obtain ⟨G, hG⟩ : ∃ G : Int, (if by8 l (S.i + 1) = 45 then -1 else 1) = G := ⟨_, rfl⟩
          have hof : Rf.exOf l S.i = (E : Int) * G := by
            rw [← hG]; unfold Rf.exOf; rw [hE]; split <;> omega
          have G1 : G = 1 ∨ G = -1 := by rw [← hG]; split <;> simp
          have HX2 := Lib.hid (show X = ⟨D, xn, Q + (E : Int) * G, xt⟩ by rw [HX.out, show Rf.exPart l S.i = Rf.exOf l S.i from if_pos hM, hof])
          have EG : -100010 ≤ (E : Int) * G ∧ (E : Int) * G ≤ 100010 := by rcases G1 with h | h <;> rw [h] <;> omega
          obtain ⟨F, hF⟩ : ∃ F, Rf.exAt l S.i = F := ⟨_, rfl⟩
          rw [hF] at hA0 hM3 hE hdA hdk
          have HF := Lib.hid hF
          have HG := Lib.hid hG
          have HEx := Lib.hid (show E = Rf.exGo l (l.length + 1) F 0 from hE.symm)
          clear HX HE hM4 hM2 hE hof hF hG hbM
          go_upto_block 4 with (first | (go_at_call 176; refine (LWm _).mono ?_; rintro e w1 ⟨rfl, rfl⟩))
          go_cut [5, 8] from 148 to 155 (fun i g wx => i = .int .i64 (F : Int) ∧ g = .int .i64 G ∧ DW ng wx b ⟨D, xn, Q, xt⟩ ∧ Chg [b] w wx)
          case first =>
            clear HX2 HEx hdk
            by_cases g1 : by8 l (S.i + 1) = 43
            · have d1 : ((by8 l (S.i + 1) : Int) == 43) = true := by rw [beq_iff_eq]; omega
              have e1 : (S.i : Int) + 2 = (F : Int) := by rw [← HF.out]; unfold Rf.exAt; rw [if_pos (.inl g1)]; omega
              have e2 : G = 1 := by rw [← HG.out, if_neg (by omega)]
              have E1 := Lib.hid e1
              subst e2
              clear e1 g1 HF HG hdA EG G1
              go_wp2
              go_meet
              exact ⟨by rw [E1.out], rfl, hw, hg⟩
            by_cases g2 : by8 l (S.i + 1) = 45
            · have d1 : ((by8 l (S.i + 1) : Int) == 43) = false := by rw [beq_eq_false_iff_ne]; omega
              have d2 : ((by8 l (S.i + 1) : Int) == 45) = true := by rw [beq_iff_eq]; omega
              have e1 : (S.i : Int) + 2 = (F : Int) := by rw [← HF.out]; unfold Rf.exAt; rw [if_pos (.inr g2)]; omega
              have e2 : G = -1 := by rw [← HG.out, if_pos g2]
              have E1 := Lib.hid e1
              subst e2
              clear e1 g1 g2 HF HG hdA EG G1
              go_wp2
              go_meet
              exact ⟨by rw [E1.out], rfl, hw, hg⟩
            · have d1 : ((by8 l (S.i + 1) : Int) == 43) = false := by rw [beq_eq_false_iff_ne]; omega
              have d2 : ((by8 l (S.i + 1) : Int) == 45) = false := by rw [beq_eq_false_iff_ne]; omega
              have e1 : (S.i : Int) + 1 = (F : Int) := by rw [← HF.out]; unfold Rf.exAt; rw [if_neg (by omega)]; omega
              have e2 : G = 1 := by rw [← HG.out, if_neg g2]
              have E1 := Lib.hid e1
              subst e2
              clear e1 g1 g2 HF HG hdA EG G1
              go_wp2
              go_meet
              exact ⟨by rw [E1.out], rfl, hw, hg⟩
          case rest =>
            clear hw hg
            obtain ⟨rfl, rfl, hw, hg⟩ := hcut
            clear HF HG LWm hbS w5 w6 w7 n1 hM' hM hM5 hM6
            have hF' : (F : Int) < l.length := by omega
            have hF2 : ¬ (l.length : Int) ≤ (F : Int) := by omega
            have x1 : decide (((by8 l F : Nat) : Int) < 48) = false := by rw [decide_eq_false_iff_not]; omega
            have x2 : decide ((57 : Int) < ((by8 l F : Nat) : Int)) = false := by rw [decide_eq_false_iff_not]; omega
            go_upto_block 5 with (fail)
            go_cut [5, 9] from 172 to 209 (fun i e wx => i = .int .i64 (l.length : Int) ∧ e = .int .i64 (E : Int) ∧ DW ng wx b ⟨D, xn, Q, xt⟩ ∧ Chg [b] w wx)
            case first =>
              clear HX2 x1 x2
              go_wp2_with fail
              go_loopw [5, 9] (fun i e wr => ∃ (k x f : Nat), i = .int .i64 (k : Int) ∧ e = .int .i64 (x : Int) ∧ F ≤ k ∧ k ≤ l.length ∧ l.length < k + f ∧ x < 100010 ∧ DW ng wr b ⟨D, xn, Q, xt⟩ ∧ Chg [b] w wr ∧ Hid (E = Rf.exGo l f k x)) (fun i _ _ => l.length + 1 - (intOf i).toNat)
              case atStart => exact ⟨F, 0, l.length + 1, rfl, rfl, Nat.le_refl _, by omega, by omega, by omega, hw, hg, HEx⟩
              case round =>
                obtain ⟨k, x, f, rfl, rfl, k1, k2, k3, xl, hw2, hg2, H⟩ := hrel
                obtain ⟨f, rfl⟩ : ∃ g, f = g + 1 := ⟨f - 1, by omega⟩
                clear HEx hw hg hdA hF' hF2
                by_cases hlt : k < l.length
                · have hlt' : (k : Int) < l.length := by omega
                  have hd := hdk.out k k1 hlt
                  have hb := by8_lt l k
                  have o3 : decide ((48 : Int) ≤ ((by8 l k) : Int)) = true := by rw [decide_eq_true_eq]; omega
                  have o4 : decide (((by8 l k) : Int) ≤ 57) = true := by rw [decide_eq_true_eq]; omega
                  have o5 : (((by8 l k) : Int) == 95) = false := by rw [beq_eq_false_iff_ne]; omega
                  have wk : IntKind.i64.wrap ((k : Int) + 1) = (k : Int) + 1 := IntWalk.i64_in _ (by omega)
                  have wc : IntKind.i64.wrap ((by8 l k) : Int) = ((by8 l k) : Int) := IntWalk.i64_in _ (by omega)
                  by_cases x4 : x < 10000
                  · have x4' : (x : Int) < 10000 := by omega
                    have HN := Lib.hid (show E = Rf.exGo l f (k + 1) (x * 10 + (by8 l k - 48)) by rw [H.out, Rf.exGo, if_pos hlt, if_pos x4])
                    have v1 : IntKind.i64.wrap ((x : Int) * 10) = (x : Int) * 10 := IntWalk.i64_in _ (by omega)
                    have v2 : IntKind.i64.wrap ((x : Int) * 10 + ((by8 l k) : Int)) = (x : Int) * 10 + ((by8 l k) : Int) := IntWalk.i64_in _ (by omega)
                    have v3 : IntKind.i64.wrap ((x : Int) * 10 + ((by8 l k) : Int) - 48) = ((x * 10 + (by8 l k - 48) : Nat) : Int) := by rw [show (x : Int) * 10 + ((by8 l k) : Int) - 48 = ((x * 10 + (by8 l k - 48) : Nat) : Int) by omega]; exact IntWalk.i64_in _ (by omega)
                    have xl2 : x * 10 + (by8 l k - 48) < 100010 := by omega
                    obtain ⟨y, hy⟩ : ∃ y, x * 10 + (by8 l k - 48) = y := ⟨_, rfl⟩
                    rw [hy] at v3 HN xl2
                    clear H hy hd
                    go_wp2
                    go_roundw
                    case rel => exact ⟨k + 1, y, f, by go_num, rfl, by omega, by omega, by omega, xl2, hw2, hg2, HN⟩
                    case measure => simp [intOf]; omega
                  · have x4' : ¬ (x : Int) < 10000 := by omega
                    have HN := Lib.hid (show E = Rf.exGo l f (k + 1) x by rw [H.out, Rf.exGo, if_pos hlt, if_neg x4])
                    clear H hd
                    go_wp2
                    go_roundw
                    case rel => exact ⟨k + 1, x, f, by go_num, rfl, by omega, by omega, by omega, xl, hw2, hg2, HN⟩
                    case measure => simp [intOf]; omega
                · have hlt' : ¬ (k : Int) < l.length := by omega
                  have HN := Lib.hid (show E = x by rw [H.out, Rf.exGo, if_neg hlt])
                  have HK := Lib.hid (show k = l.length by omega)
                  clear H
                  go_wp2
                  go_meet
                  exact ⟨by rw [HK.out], by rw [HN.out], hw2, hg2⟩
            case rest =>
              clear hw hg HEx hdk x1 x2 hF' hF2 hdA
              obtain ⟨rfl, rfl, hw, hg⟩ := hcut
              have cp := hw.cdp
              have fp := hw.free 801
              have hw2 := hw.setdp (Q + (E : Int) * G)
              simp only at cp hw2
              have hg2 := hg.trans (chg_set _ b 801 (.int .i64 (Q + (E : Int) * G)))
              have v1 : IntKind.i64.wrap ((E : Int) * G) = (E : Int) * G := IntWalk.i64_in _ (by omega)
              have v2 : IntKind.i64.wrap (Q + (E : Int) * G) = Q + (E : Int) * G := IntWalk.i64_in _ (by omega)
              clear EG G1 hEl
              go_wp2
              go_ret
              rw [HX2.out]
              exact ⟨rfl, hw2, hg2⟩
end Dc
end Go.Proofs.YtapgibcdbggpkaaGreatDoor
