/- The library's decimal, shifted to the right. The library's decimal, shifted to the left: the cutoff compared. -/
import Derived.Test.YtapgibcdbggpkaaGreatDoorDcX
import Derived.Deep.CutBlock
import Derived.WalkMore
namespace Go.Proofs.YtapgibcdbggpkaaGreatDoor
open Go Go.RowKit
set_option linter.all false
namespace Dc
variable {ng : Bool}
theorem cdiv (n k : Nat) : (n : Int) / 2 ^ k = ((n / 2 ^ k : Nat) : Int) := by rw [Int.natCast_ediv, Int.natCast_pow]; rfl
theorem p60 {k : Nat} (h : k ≤ 60) : 2 ^ k ≤ 1152921504606846976 := Nat.pow_le_pow_right (n := 2) (j := 60) (by decide) h
/-- while the last digits are put down -/
def QE (k nd q b : Nat) (w : World) (dp : Int) (T : List Nat × Nat × Bool) (f : Nat) (v n : Value) (wr : World) : Prop :=
  ∃ (j m : Nat) (E : List Nat) (t : Bool), v = .int .i64 (j : Int) ∧ n = .int .u64 (m : Int) ∧ f ≤ 80 ∧ 2 ^ (80 - f) ∣ m ∧ MI k nd q E j m ∧ DW ng wr b ⟨E, nd, dp, t⟩ ∧ Chg [b] w wr ∧ Hid (T = extra k f E j m t)
set_option maxRecDepth 100000 in
set_option maxHeartbeats 16000000 in
theorem rshift_any {w : World} {b k : Nat} {x : Dec} (h : DW ng w b x) (ok : Ok x) (k1 : 1 ≤ k) (k2 : k ≤ 60) (dl : -1000000000000000 ≤ x.dp) (dh : x.dp ≤ 1000000000000000) :
    Calls Tryz.prog 189 #[.pointer (some ⟨b, 0, none⟩), .int .u64 (k : Int)] w fun e w' => e = .returned (.tuple #[]) ∧ DW ng w' b (rsh k x) ∧ Chg [b] w w' := by
  obtain ⟨D, nd, dp, tr⟩ := x
  have hRI := rst_says ok k2
  have P60 := p60 k2
  have P0 : 0 < 2 ^ k := Nat.pow_pos (by decide)
  have cd := fun n => cdiv n k
  have k64 : ¬ (64 : Int) ≤ (k : Int) := by omega
  have k0 : ¬ (k : Int) < 0 := by omega
  obtain ⟨R, hR⟩ : ∃ R, rst k ⟨D, nd, dp, tr⟩ = R := ⟨_, rfl⟩
  have HR0 := Lib.hid (show rst k ⟨D, nd, dp, tr⟩ = (if (pick k D nd 0 0).2 / 2 ^ k ≠ 0 then pick k D nd 0 0 else grow k 64 (pick k D nd 0 0).1 (pick k D nd 0 0).2) from rfl)
  rw [hR] at HR0 hRI
  have HX := Lib.hid (show rsh k ⟨D, nd, dp, tr⟩ = trim ⟨(extra k 80 (mid k nd D R.1 0 R.2).1 (mid k nd D R.1 0 R.2).2.1 (mid k nd D R.1 0 R.2).2.2 tr).1, (extra k 80 (mid k nd D R.1 0 R.2).1 (mid k nd D R.1 0 R.2).2.1 (mid k nd D R.1 0 R.2).2.2 tr).2.1, dp - ((R.1 : Int) - 1), (extra k 80 (mid k nd D R.1 0 R.2).1 (mid k nd D R.1 0 R.2).2.1 (mid k nd D R.1 0 R.2).2.2 tr).2.2⟩ by unfold rsh; rw [hR])
  generalize rsh k ⟨D, nd, dp, tr⟩ = X at *
  obtain ⟨ob, on, ov, op, od⟩ := ok
  simp only at ob on ov op od dl dh hRI
  clear hR
  go_enter Tryz.func189, Tryz.ntmps189
  go_upto_block 0 with (fail)
  go_cut [4, 6] from 12 to 48 (fun r n wx => r = .int .i64 (R.1 : Int) ∧ n = .int .u64 (R.2 : Int) ∧ w = wx)
  case first =>
    clear HX
    have c0 := h.cnd
    simp only at c0
    have p0 : PI k D nd 0 0 := ⟨Nat.mul_pos (by decide) (Nat.pow_pos (by decide)), fun _ => rfl, by omega, by omega, Nat.zero_le _⟩
    go_wp2_with fail
    go_loopw [4, 6] (fun r n wr => ∃ (i m : Nat), r = .int .i64 (i : Int) ∧ n = .int .u64 (m : Int) ∧ PI k D nd i m ∧ Hid (pick k D nd 0 0 = pick k D nd i m) ∧ wr = w) (fun a _ _ => 1000 - (intOf a).toNat)
    case atStart => exact ⟨0, 0, rfl, rfl, p0, Lib.hid rfl, (by first | rfl | trivial)⟩
    case round =>
      obtain ⟨i, m, rfl, rfl, hi, HS, rfl⟩ := hrel
      have hlt := hi.lt
      have hle := hi.le
      by_cases a : m / 2 ^ k = 0
      · have d1 : ((m : Int) / 2 ^ k == 0) = true := by rw [cd, a]; rfl
        have hm2 := lt_of_div a
        by_cases c : i < nd
        · have d2 : decide ((nd : Int) ≤ (i : Int)) = false := by rw [decide_eq_false_iff_not]; omega
          have hv := ov i c
          have HN := Lib.hid (show pick k D nd 0 0 = pick k D nd (i + 1) (m * 10 + (dg D i - 48)) by rw [HS.out, pick, if_neg (by omega), if_pos c])
          have hs := hi.step ov od c a
          have ci := h.cd (i := i) (by omega)
          simp only at ci
          have i8 : (i : Int) < 800 := by omega
          have i0 : (0 : Int) ≤ (i : Int) := by omega
          have w1 : IntKind.u64.wrap ((m : Int) * 10) = (m : Int) * 10 := IntWalk.u64_in _ (by omega)
          have w2 : IntKind.u64.wrap ((m : Int) * 10 + (dg D i : Int)) = (m : Int) * 10 + (dg D i : Int) := IntWalk.u64_in _ (by omega)
          have w3 : IntKind.u64.wrap ((m : Int) * 10 + (dg D i : Int) - 48) = (m : Int) * 10 + (dg D i : Int) - 48 := IntWalk.u64_in _ (by omega)
          have w4 : IntKind.i64.wrap ((i : Int) + 1) = (i : Int) + 1 := IntWalk.i64_in _ (by omega)
          have w5 : IntKind.u64.wrap (dg D i : Int) = (dg D i : Int) := IntWalk.u64_in _ (by omega)
          clear HS HR0 a cd hm2
          go_wp2
          go_roundw
          case rel => exact ⟨i + 1, m * 10 + (dg D i - 48), by push_cast; rfl, by congr 1; omega, hs, HN, (by first | rfl | trivial)⟩
          case measure => simp [intOf]; omega
        · have d2 : decide ((nd : Int) ≤ (i : Int)) = true := by rw [decide_eq_true_eq]; omega
          have m1 := hi.pos (by omega)
          have d3 : ((m : Int) == 0) = false := by rw [beq_eq_false_iff_ne]; omega
          have HG := Lib.hid (show R = grow k 64 i m by
            have : pick k D nd 0 0 = (i, m) := by rw [HS.out, pick, if_neg (by omega), if_neg c]
            rw [HR0.out, this, if_neg (by simp only; omega)])
          have hin : i = nd := by omega
          have hgm : 2 ^ k ≤ m * 2 ^ 64 := by omega
          clear HS HR0
          go_wp2
          go_loopw [4, 6] (fun r n wr2 => ∃ (f i2 m2 : Nat), r = .int .i64 (i2 : Int) ∧ n = .int .u64 (m2 : Int) ∧ f + i2 = nd + 64 ∧ f ≤ 64 ∧ m2 < 10 * 2 ^ k ∧ 2 ^ k ≤ m2 * 2 ^ f ∧ Hid (R = grow k f i2 m2) ∧ wr2 = wr) (fun a _ _ => 1000 - (intOf a).toNat)
          case atStart => exact ⟨64, i, m, rfl, rfl, by omega, by omega, hlt, hgm, HG, (by first | rfl | trivial)⟩
          case round =>
            obtain ⟨f, i2, m2, rfl, rfl, f1, f2, f3, f4, HG2, rfl⟩ := hrel
            by_cases a2 : m2 / 2 ^ k = 0
            · have e1 : ((m2 : Int) / 2 ^ k == 0) = true := by rw [cd, a2]; rfl
              have hm3 := lt_of_div a2
              obtain ⟨f, rfl⟩ : ∃ g, f = g + 1 := by
                cases f with
                | zero => rw [Nat.pow_zero, Nat.mul_one] at f4; omega
                | succ g => exact ⟨g, rfl⟩
              have HN := Lib.hid (show R = grow k f (i2 + 1) (m2 * 10) by rw [HG2.out, grow, if_pos a2])
              have f5 : 2 ^ k ≤ m2 * 10 * 2 ^ f := by
                rw [Nat.pow_succ] at f4
                have h5 : m2 * (2 ^ f * 2) ≤ m2 * (10 * 2 ^ f) := Nat.mul_le_mul_left _ (by omega)
                rw [Nat.mul_assoc]; omega
              have w1 : IntKind.u64.wrap ((m2 : Int) * 10) = (m2 : Int) * 10 := IntWalk.u64_in _ (by omega)
              have w4 : IntKind.i64.wrap ((i2 : Int) + 1) = (i2 : Int) + 1 := IntWalk.i64_in _ (by omega)
              have hms : 1000 - (i2 + 1) < 1000 - i2 := by omega
              clear HG2 HG a2 cd f4
              go_wp2
              go_roundw
              case rel => exact ⟨f, i2 + 1, m2 * 10, by push_cast; rfl, by push_cast; rfl, by omega, by omega, by omega, f5, HN, (by first | rfl | trivial)⟩
              case measure => simp [intOf]; omega
            · have e1 : ((m2 : Int) / 2 ^ k == 0) = false := by rw [cd, beq_eq_false_iff_ne]; omega
              have HN := Lib.hid (show R = (i2, m2) by
                rw [HG2.out]
                cases f with
                | zero => rfl
                | succ f => rw [grow, if_neg a2])
              clear HG2 HG a2 cd f4
              go_wp2
              go_meet
              rw [HN.out]
              exact ⟨rfl, rfl, rfl⟩
      · have d1 : ((m : Int) / 2 ^ k == 0) = false := by rw [cd, beq_eq_false_iff_ne]; omega
        have HG := Lib.hid (show R = (i, m) by
          have : pick k D nd 0 0 = (i, m) := by rw [HS.out, pick, if_pos a]
          rw [HR0.out, this, if_pos a])
        clear HS HR0 a cd
        go_wp2
        go_meet
        rw [HG.out]
        exact ⟨rfl, rfl, rfl⟩
  case rest =>
    obtain ⟨rfl, rfl, rfl⟩ := hcut
    obtain ⟨r0, n0⟩ := R
    simp only at HX hRI
    obtain ⟨rl, rne, -, rp, rle⟩ := hRI
    obtain ⟨q, hq⟩ : ∃ q, n0 / 2 ^ k = q := ⟨_, rfl⟩
    have hmi : MI k nd q D 0 n0 := ⟨rl, ob, by rw [Nat.max_eq_left (Nat.zero_le _)]; exact ov, by omega, fun _ => hq, by omega⟩
    have c1 := h.cdp
    simp only at c1
    have f1 := h.free 801
    have h1 := h.setdp (dp - ((r0 : Int) - 1))
    simp only at h1
    have g1 := chg_set w b 801 (.int .i64 (dp - ((r0 : Int) - 1)))
    have w1 : IntKind.i64.wrap ((r0 : Int) - 1) = (r0 : Int) - 1 := IntWalk.i64_in _ (by omega)
    have w2 : IntKind.i64.wrap (dp - ((r0 : Int) - 1)) = dp - ((r0 : Int) - 1) := IntWalk.i64_in _ (by omega)
    have w4 : IntKind.u64.wrap ((2 : Int) ^ k) = (2 : Int) ^ k := by
      have : ((2 ^ k : Nat) : Int) = (2 : Int) ^ k := by rw [Int.natCast_pow]; rfl
      rw [← this]
      exact IntWalk.u64_in _ (by omega)
    have w3 : IntKind.u64.wrap ((2 : Int) ^ k - 1) = (2 : Int) ^ k - 1 := by
      have : ((2 ^ k : Nat) : Int) = (2 : Int) ^ k := by rw [Int.natCast_pow]; rfl
      rw [← this]
      exact IntWalk.u64_in _ (by omega)
    have BA : ∀ n : Nat, n < 18446744073709551616 → bits .and .u64 (n : Int) ((2 : Int) ^ k - 1) = ((n % 2 ^ k : Nat) : Int) := fun n hn => by
      have := bits_mask .u64 64 (by decide) (fun n h0 h1 => by rw [IntKind.wrap_u64]; omega) k (by omega) (n : Int) (by omega) (by omega)
      rw [this, Int.natCast_emod, Int.natCast_pow]; rfl
    have hq0 : q ≠ 0 := by rw [← hq]; exact rne
    go_upto_block 4 with (fail)
    generalize dp - ((r0 : Int) - 1) = dp2 at *
    generalize w.setCell ⟨b, 801, none⟩ (.int .i64 dp2) = wd at *
    clear w1 w2 w3 w4 c1 f1 h dl dh rne rl
    obtain ⟨M, hM⟩ : ∃ M, mid k nd D r0 0 n0 = M := ⟨_, rfl⟩
    have HM := Lib.hid (show M = mid k nd D r0 0 n0 from hM.symm)
    have hMs := mid_says on _ D r0 0 n0 rfl (by omega) hmi
    rw [hM] at HX hMs
    clear hM
    go_cut [5, 6] from 61 to 96 (fun v n wx => v = .int .i64 (M.2.1 : Int) ∧ n = .int .u64 (M.2.2 : Int) ∧ DW ng wx b ⟨M.1, nd, dp2, tr⟩ ∧ Chg [b] w wx)
    case first =>
      clear HX HR0 hMs
      go_wp2_with fail
      go_loopw [4, 5, 6] (fun r v n wr => ∃ (i j m : Nat) (E : List Nat), r = .int .i64 (i : Int) ∧ v = .int .i64 (j : Int) ∧ n = .int .u64 (m : Int) ∧ j < i ∧ i ≤ 864 ∧ MI k nd q E j m ∧ DW ng wr b ⟨E, nd, dp2, tr⟩ ∧ Chg [b] w wr ∧ Hid (M = mid k nd E i j m)) (fun a _ _ _ => 1000 - (intOf a).toNat)
      case atStart => exact ⟨r0, 0, n0, D, rfl, rfl, rfl, by omega, by omega, hmi, h1, g1, HM⟩
      case round =>
        obtain ⟨i, j, m, E, rfl, rfl, rfl, hji, hi, hm, hw, hg, HS⟩ := hrel
        clear HM h1 g1
        have cn := hw.cnd
        simp only at cn
        by_cases c : i < nd
        · have d1 : decide ((i : Int) < (nd : Int)) = true := by rw [decide_eq_true_eq]; omega
          have hv := hm.v i (by omega)
          have ci := hw.cd (i := i) (by omega)
          simp only at ci
          have i8 : (i : Int) < 800 := by omega
          have i0 : (0 : Int) ≤ (i : Int) := by omega
          have j8 : (j : Int) < 800 := by omega
          have j0 : (0 : Int) ≤ (j : Int) := by omega
          have hlt := hm.lt
          have hlo := low_lt hlt
          have hml := next_lt (n := m) (k := k) (c := dg E i - 48) (by omega)
          have hput := hm.put (by omega) (.inl (by omega)) hml
          have HN := Lib.hid (show M = mid k nd (E.set j (m / 2 ^ k + 48)) (i + 1) (j + 1) (m % 2 ^ k * 10 + (dg E i - 48)) by rw [HS.out, mid, if_pos c])
          have B1 := BA m (by omega)
          have cdm := cd m
          obtain ⟨u, hu⟩ : ∃ u, m / 2 ^ k = u := ⟨_, rfl⟩
          obtain ⟨v, hv2⟩ : ∃ v, m % 2 ^ k = v := ⟨_, rfl⟩
          rw [hu] at hlo cdm
          rw [hu, hv2] at hput HN
          rw [hv2] at B1 hml
          have w1 : IntKind.u64.wrap ((v : Int) * 10) = (v : Int) * 10 := IntWalk.u64_in _ (by omega)
          have w2 : IntKind.u64.wrap ((v : Int) * 10 + (dg E i : Int)) = (v : Int) * 10 + (dg E i : Int) := IntWalk.u64_in _ (by omega)
          have w3 : IntKind.u64.wrap ((v : Int) * 10 + (dg E i : Int) - 48) = (v : Int) * 10 + (dg E i : Int) - 48 := IntWalk.u64_in _ (by omega)
          have w4 : IntKind.i64.wrap ((i : Int) + 1) = (i : Int) + 1 := IntWalk.i64_in _ (by omega)
          have w5 : IntKind.u64.wrap (dg E i : Int) = (dg E i : Int) := IntWalk.u64_in _ (by omega)
          have w6 : IntKind.i64.wrap ((j : Int) + 1) = (j : Int) + 1 := IntWalk.i64_in _ (by omega)
          have w7 : IntKind.u64.wrap ((u : Int) + 48) = (u : Int) + 48 := IntWalk.u64_in _ (by omega)
          have w8 : IntKind.u8.wrap ((u : Int) + 48) = (u : Int) + 48 := by rw [IntKind.wrap_u8]; omega
          have fj := hw.free j
          have cj := hw.cd (i := j) (by omega)
          simp only at cj
          have hw2 := hw.setd (i := j) (by omega) (v := u + 48) (by omega)
          simp only at hw2
          have hg2 := hg.trans (chg_set wr b j (.int .u8 ((u + 48 : Nat) : Int)))
          rw [show ((u + 48 : Nat) : Int) = (u : Int) + 48 by omega] at hw2 hg2
          clear HS hu hv2 cd BA hm hlt
          go_wp2
          go_roundw
          case rel => exact ⟨i + 1, j + 1, v * 10 + (dg E i - 48), E.set j (u + 48), by push_cast; rfl, by push_cast; rfl, by congr 1; omega, by omega, by omega, hput, hw2, hg2, HN⟩
          case measure => simp [intOf]; omega
        · have d1 : decide ((i : Int) < (nd : Int)) = false := by rw [decide_eq_false_iff_not]; omega
          have HN := Lib.hid (show M = (E, j, m) by rw [HS.out, mid, if_neg c])
          clear HS cd BA
          go_wp2
          go_meet
          rw [HN.out]
          exact ⟨rfl, rfl, hw, hg⟩
    case rest =>
      obtain ⟨rfl, rfl, hw, hg⟩ := hcut
      obtain ⟨E0, j0, m0⟩ := M
      obtain ⟨hm0, hj0⟩ := hMs
      simp only at hm0 hj0 HX hw
      obtain ⟨T, hT⟩ : ∃ T, extra k 80 E0 j0 m0 tr = T := ⟨_, rfl⟩
      have HT := Lib.hid (show T = extra k 80 E0 j0 m0 tr from hT.symm)
      have hTs := extra_says 80 E0 j0 m0 tr hm0 (fun e => ⟨by decide, fun e2 => by
        have h1 := hm0.f0 e
        rw [e2, Nat.zero_div] at h1
        exact hq0 h1.symm⟩)
      rw [hT] at HX hTs
      clear hT h1 g1 HM HR0 hmi
      go_upto_block 6 with (fail)
      go_wp2_with fail
      go_loopw [5, 6] (fun v n wr => ∃ f, QE (ng := ng) k nd q b w dp2 T f v n wr) (fun v n wr => least fun f => QE (ng := ng) k nd q b w dp2 T f v n wr)
      case atStart => exact ⟨80, j0, m0, E0, tr, rfl, rfl, by omega, by rw [Nat.sub_self, Nat.pow_zero]; exact Nat.one_dvd _, hm0, hw, hg, HT⟩
      case round =>
        obtain ⟨F, ⟨j, m, E, t, rfl, rfl, f80, hdv, hm, hw2, hg2, HS⟩, hF⟩ := least_rel hrel
        clear HT hw hg hm0
        by_cases z : m = 0
        · have d1 : decide ((0 : Int) < (m : Int)) = false := by rw [decide_eq_false_iff_not]; omega
          have HN := Lib.hid (show T = (E, j, t) by
            rw [HS.out]
            cases F with
            | zero => rfl
            | succ f => rw [extra, if_pos z])
          have hj := hm.w8
          have c8 := hw2.cnd
          simp only at c8
          have f8 := hw2.free 800
          have hw3 := hw2.setnd j
          simp only at hw3
          have hg3 := hg2.trans (chg_set wr b 800 (.int .i64 (j : Int)))
          have TR := trim_any hw3 hj
          have HX2 := Lib.hid (show X = trim ⟨E, j, dp2, t⟩ by rw [HX.out, HN.out])
          subst z
          clear HS HN hF hm hTs
          go_wp2_with fail
          refine TR.mono ?_
          rintro e w9 ⟨rfl, t1, t2⟩
          go_wp2
          refine bodyPost_end (results_none rfl _ _ _) rfl ⟨rfl, ?_, hg3.trans t2⟩
          rw [HX2.out]
          exact t1
        · have d1 : decide ((0 : Int) < (m : Int)) = true := by rw [decide_eq_true_eq]; omega
          have d1' : 0 < m := by omega
          have hlt := hm.lt
          obtain ⟨f, rfl⟩ : ∃ g, F = g + 1 := by
            cases F with
            | zero =>
              have := Nat.le_of_dvd (by omega) hdv
              rw [Nat.sub_zero] at this
              omega
            | succ f => exact ⟨f, rfl⟩
          have hlo := low_lt hlt
          have hml := next_lt (n := m) (k := k) (c := 0) (by omega)
          rw [Nat.add_zero] at hml
          have hdv2 : 2 ^ (80 - f) ∣ m % 2 ^ k * 10 := by
            rw [show 80 - f = (80 - (f + 1)) + 1 by omega, Nat.pow_succ]
            rcases Nat.lt_or_ge k (80 - (f + 1)) with hk | hk
            · have : 2 ^ k ∣ m := Nat.dvd_trans (Nat.pow_dvd_pow 2 (by omega)) hdv
              rw [Nat.mod_eq_zero_of_dvd this, Nat.zero_mul]
              exact Nat.dvd_zero _
            · have h1 : 2 ^ (80 - (f + 1)) ∣ m % 2 ^ k := (Nat.dvd_mod_iff (Nat.pow_dvd_pow 2 hk)).2 hdv
              exact Nat.mul_dvd_mul h1 (by decide)
          have B1 := BA m (by omega)
          have cdm := cd m
          by_cases j8 : j < 800
          · have j8' : (j : Int) < 800 := by omega
            have j0 : (0 : Int) ≤ (j : Int) := by omega
            have hput := hm.put j8 (by omega) hml
            have HN := Lib.hid (show T = extra k f (E.set j (m / 2 ^ k + 48)) (j + 1) (m % 2 ^ k * 10) t by rw [HS.out, extra, if_neg z, if_pos j8])
            obtain ⟨u, hu⟩ : ∃ u, m / 2 ^ k = u := ⟨_, rfl⟩
            obtain ⟨v, hv2⟩ : ∃ v, m % 2 ^ k = v := ⟨_, rfl⟩
            rw [hu] at hlo cdm
            rw [hu, hv2] at hput HN
            rw [hv2] at B1 hml hdv2
            have w1 : IntKind.u64.wrap ((v : Int) * 10) = (v : Int) * 10 := IntWalk.u64_in _ (by omega)
            have w6 : IntKind.i64.wrap ((j : Int) + 1) = (j : Int) + 1 := IntWalk.i64_in _ (by omega)
            have w7 : IntKind.u64.wrap ((u : Int) + 48) = (u : Int) + 48 := IntWalk.u64_in _ (by omega)
            have w8 : IntKind.u8.wrap ((u : Int) + 48) = (u : Int) + 48 := by rw [IntKind.wrap_u8]; omega
            have fj := hw2.free j
            have cj := hw2.cd (i := j) (by omega)
            simp only at cj
            have hw3 := hw2.setd (i := j) (by omega) (v := u + 48) (by omega)
            simp only at hw3
            have hg3 := hg2.trans (chg_set wr b j (.int .u8 ((u + 48 : Nat) : Int)))
            rw [show ((u + 48 : Nat) : Int) = (u : Int) + 48 by omega] at hw3 hg3
            clear HS hu hv2 cd BA hm hlt hdv hTs
            go_wp2
            go_roundw
            case rel => exact ⟨f, j + 1, v * 10, E.set j (u + 48), t, by push_cast; rfl, by push_cast; rfl, by omega, hdv2, hput, hw3, hg3, HN⟩
            case measure => exact Nat.lt_of_lt_of_le (Nat.lt_of_le_of_lt (least_le (f := f) ⟨j + 1, v * 10, E.set j (u + 48), t, by push_cast; rfl, by push_cast; rfl, by omega, hdv2, hput, hw3, hg3, HN⟩) (Nat.lt_succ_self f)) hF.out
          · have j8' : ¬ (j : Int) < 800 := by omega
            have hm2 : MI k nd q E j (m % 2 ^ k * 10) := ⟨hml, hm.b, hm.v, hm.w8, by omega, fun _ => hm.f1 (by omega)⟩
            have HN := Lib.hid (show T = extra k f E j (m % 2 ^ k * 10) (t || decide (0 < m / 2 ^ k)) by rw [HS.out, extra, if_neg z, if_neg j8])
            obtain ⟨u, hu⟩ : ∃ u, m / 2 ^ k = u := ⟨_, rfl⟩
            obtain ⟨v, hv2⟩ : ∃ v, m % 2 ^ k = v := ⟨_, rfl⟩
            rw [hu] at hlo cdm
            rw [hu, hv2] at HN
            rw [hv2] at B1 hml hdv2 hm2
            have w1 : IntKind.u64.wrap ((v : Int) * 10) = (v : Int) * 10 := IntWalk.u64_in _ (by omega)
            by_cases u0 : 0 < u
            · have d2 : decide ((0 : Int) < (u : Int)) = true := by rw [decide_eq_true_eq]; omega
              have f3 := hw2.free 803
              have c3 := hw2.ctr
              simp only at c3
              have hw3 := hw2.settr true
              simp only at hw3
              have hg3 := hg2.trans (chg_set wr b 803 (.bool true))
              have HN2 := Lib.hid (show T = extra k f E j (v * 10) true by rw [HN.out, decide_eq_true u0, Bool.or_true])
              clear HS hu hv2 cd BA hm hlt hdv HN hTs
              go_wp2
              go_roundw
              case rel => exact ⟨f, j, v * 10, E, true, rfl, by push_cast; rfl, by omega, hdv2, hm2, hw3, hg3, HN2⟩
              case measure => exact Nat.lt_of_lt_of_le (Nat.lt_of_le_of_lt (least_le (f := f) ⟨j, v * 10, E, true, rfl, by push_cast; rfl, by omega, hdv2, hm2, hw3, hg3, HN2⟩) (Nat.lt_succ_self f)) hF.out
            · have d2 : decide ((0 : Int) < (u : Int)) = false := by rw [decide_eq_false_iff_not]; omega
              have HN2 := Lib.hid (show T = extra k f E j (v * 10) t by rw [HN.out, decide_eq_false u0, Bool.or_false])
              clear HS hu hv2 cd BA hm hlt hdv HN hTs
              go_wp2
              go_roundw
              case rel => exact ⟨f, j, v * 10, E, t, rfl, by push_cast; rfl, by omega, hdv2, hm2, hw2, hg2, HN2⟩
              case measure => exact Nat.lt_of_lt_of_le (Nat.lt_of_le_of_lt (least_le (f := f) ⟨j, v * 10, E, t, rfl, by push_cast; rfl, by omega, hdv2, hm2, hw2, hg2, HN2⟩) (Nat.lt_succ_self f)) hF.out
end Dc
end Go.Proofs.YtapgibcdbggpkaaGreatDoor
namespace Go.Proofs.YtapgibcdbggpkaaGreatDoor
open Go Go.RowKit
set_option linter.all false
namespace Dc
variable {ng : Bool}
theorem getD_by8 (s : List UInt8) (i : Nat) : (s.map UInt8.toNat).getD i 0 = by8 s i := by
  unfold by8
  rw [List.getD_eq_getElem?_getD, List.getElem?_map]
  by_cases h : i < s.length
  · simp [List.getD_eq_getElem?_getD, List.getElem?_eq_getElem h]
  · simp [List.getD_eq_getElem?_getD, List.getElem?_eq_none (Nat.le_of_not_lt h)]
set_option maxRecDepth 100000 in
set_option maxHeartbeats 4000000 in
theorem prefix_any {w : World} {b : Nat} {x : Dec} {s : List UInt8} (h : DW ng w b x) (hn : x.nd ≤ 800) (hs : s.length ≤ 1000) :
    Calls Tryz.prog 201 #[.slice (some ⟨b, 0, none⟩) x.nd 800, .string ⟨s.toArray⟩] w fun e w' => e = .returned (.bool (pl x.D x.nd (s.map UInt8.toNat) 0)) ∧ Pur w w' := by
  obtain ⟨D, nd, dp, tr⟩ := x
  simp only at hn ⊢
  obtain ⟨R, hR⟩ : ∃ R, pl D nd (s.map UInt8.toNat) 0 = R := ⟨_, rfl⟩
  have HR := Lib.hid (show R = pl D nd (s.map UInt8.toNat) 0 from hR.symm)
  rw [hR]
  have hB := h.B
  simp only at hB
  clear hR
  go_enter Tryz.func201, Tryz.ntmps201
  go_wp2
  go_loopw [5] (fun i wr => ∃ (k : Nat), i = .int .i64 (k : Int) ∧ k ≤ s.length ∧ Pur w wr ∧ Hid (R = pl D nd (s.map UInt8.toNat) k)) (fun i wr => 2000 - (intOf i).toNat)
  case atStart => exact ⟨0, rfl, by omega, Pur.refl _, HR⟩
  case round =>
    obtain ⟨k, rfl, hk, hp, HS⟩ := hrel
    clear HR
    have hw := h.pur hp
    by_cases c : k < s.length
    · have c' : (k : Int) < s.length := by omega
      by_cases a : nd ≤ k
      · have a' : decide ((nd : Int) ≤ (k : Int)) = true := by rw [decide_eq_true_eq]; omega
        have HN := Lib.hid (show R = true by rw [HS.out, pl, if_pos (by rw [List.length_map]; exact c), if_pos a])
        clear HS
        go_wp2
        go_ret
        rw [HN.out]
        exact ⟨rfl, hp⟩
      · have a' : decide ((nd : Int) ≤ (k : Int)) = false := by rw [decide_eq_false_iff_not]; omega
        have ck := fun x : PW wr => (hw.pur x.pur).cd (i := k) (by omega)
        simp only at ck
        have kn : (k : Int) < (nd : Int) := by omega
        have k0 : (0 : Int) ≤ (k : Int) := by omega
        have hb := by8_lt s k
        have h256 := hB.2 k
        by_cases e : dg D k ≠ by8 s k
        · have HN := Lib.hid (show R = decide (dg D k < by8 s k) by rw [HS.out, pl, if_pos (by rw [List.length_map]; exact c), if_neg a, getD_by8, if_pos e])
          have d1 : ((dg D k : Int) != (by8 s k : Int)) = true := by rw [bne_iff_ne]; omega
          clear HS e
          go_wp2
          refine wp_region_pur (by kernel_rfl) (by kernel_rfl) ?_
          repeat (go_big_quiet_step (fail))
          refine wpQuiet_nil ?_
          intro wq hq
          have ck2 := fun x : PW wq => (hw.pur (hq.trans x.pur)).cd (i := k) (by omega)
          simp only at ck2
          go_wp2
          refine wp_region_pur (by kernel_rfl) (by kernel_rfl) ?_
          repeat (go_big_quiet_step (fail))
          refine wpQuiet_nil ?_
          intro wz hz
          go_wp2
          go_ret
          rw [HN.out]
          exact ⟨rfl, (hp.trans hq).trans hz⟩
        · have HN := Lib.hid (show R = pl D nd (s.map UInt8.toNat) (k + 1) by rw [HS.out, pl, if_pos (by rw [List.length_map]; exact c), if_neg a, getD_by8, if_neg e])
          have d1 : ((dg D k : Int) != (by8 s k : Int)) = false := by rw [bne_eq_false_iff_eq]; omega
          have wk : IntKind.i64.wrap ((k : Int) + 1) = (k : Int) + 1 := IntWalk.i64_in _ (by omega)
          clear HS e
          go_wp2
          refine wp_region_pur (by kernel_rfl) (by kernel_rfl) ?_
          repeat (go_big_quiet_step (fail))
          refine wpQuiet_nil ?_
          intro wq hq
          have hp2 := hp.trans hq
          go_wp2
          go_roundw
          case rel => exact ⟨k + 1, by push_cast; rfl, by omega, hp2, HN⟩
          case measure => simp [intOf]; omega
    · have c' : ¬ (k : Int) < s.length := by omega
      have HN := Lib.hid (show R = false by rw [HS.out, pl, if_neg (by rw [List.length_map]; exact c)])
      clear HS
      go_wp2
      go_ret
      rw [HN.out]
      exact ⟨rfl, hp⟩
/-- the bytes of a cutoff -/
def cutB (k : Nat) : List UInt8 := (cut k).map UInt8.ofNat
theorem cutB_all : ∀ k, k < 61 → (cutB k).map UInt8.toNat = cut k ∧ (cutB k).length ≤ 1000 ∧ (k = 0 ∨ 1 ≤ dlt k) ∧ dlt k ≤ 19 := by decide +kernel
/-- the table of the cutoffs, as the library lays it -/
structure LCT (w : World) : Prop where
  sl : ∃ g o c, w.cell? ⟨16, 0, none⟩ = some (.slice (some ⟨g, o, none⟩) 61 c) ∧
    ∀ k, k < 61 → w.cell? ⟨g, o + k * 2, none⟩ = some (.int .i64 (dlt k : Int)) ∧ w.cell? ⟨g, o + k * 2 + 1, none⟩ = some (.string ⟨(cutB k).toArray⟩)
theorem cell_pur {w w' : World} {a : Addr} {v : Value} (h : w.cell? a = some v) (hp : Pur w w') : w'.cell? a = some v := (hp.cell (World.block_lt_of_cell? w a h)).trans h
theorem LCT.pur {w w' : World} (h : LCT w) (hp : Pur w w') : LCT w' := by
  obtain ⟨g, o, c, h1, h2⟩ := h.sl
  exact ⟨g, o, c, cell_pur h1 hp, fun k hk => ⟨cell_pur (h2 k hk).1 hp, cell_pur (h2 k hk).2 hp⟩⟩
set_option maxRecDepth 100000 in
set_option maxHeartbeats 16000000 in
theorem lshift_any {w : World} {b k : Nat} {x : Dec} (h : DW ng w b x) (hL : LCT w) (ok : Ok x) (k1 : 1 ≤ k) (k2 : k ≤ 60) (ld : -1000000000000000 ≤ x.dp) (dh : x.dp ≤ 1000000000000000) :
    Calls Tryz.prog 188 #[.pointer (some ⟨b, 0, none⟩), .int .u64 (k : Int)] w fun e w' => e = .returned (.tuple #[]) ∧ DW ng w' b (lsh k x) ∧ Chg [b] w w' := by
  obtain ⟨D, nd, dp, tr⟩ := x
  have P60 := p60 k2
  have P0 : 0 < 2 ^ k := Nat.pow_pos (by decide)
  obtain ⟨c1, c2, c3, c4⟩ := cutB_all k (by omega)
  have c3 := c3.resolve_left (by omega)
  have ⟨dl1, dl2, dl3⟩ := dl_says ok k1 k2
  simp only at dl1 dl2
  obtain ⟨d, hd⟩ : ∃ d, dl k ⟨D, nd, dp, tr⟩ = d := ⟨_, rfl⟩
  have hdl : d = dlt k - (if pl D nd (cut k) 0 then 1 else 0) := hd.symm
  have hLI := LI.start ok k d
  have hES := fun {E : List Nat} {n : Nat} => EI.start ok k1 k2 (D := E) (n := n)
  rw [hd] at dl1 dl2 dl3
  rw [hd] at hES
  simp only at hLI hES
  have HX := Lib.hid (show lsh k ⟨D, nd, dp, tr⟩ = trim ⟨(lext (lmid k d D nd 0 tr).1 d (lmid k d D nd 0 tr).2.1 (lmid k d D nd 0 tr).2.2).1, min (nd + d) 800, dp + (d : Int), (lext (lmid k d D nd 0 tr).1 d (lmid k d D nd 0 tr).2.1 (lmid k d D nd 0 tr).2.2).2⟩ by unfold lsh; rw [hd])
  generalize lsh k ⟨D, nd, dp, tr⟩ = X at *
  obtain ⟨ob, on, ov, op, od⟩ := ok
  simp only at ob on ov op od ld dh
  have PR := fun x : PW w => prefix_any (s := cutB k) (h.pur x.pur) on c2
  simp only [c1] at PR
  obtain ⟨g, go, gc, g1, g2⟩ := hL.sl
  obtain ⟨g3, g4⟩ := g2 k (by omega)
  have k0 : (0 : Int) ≤ (k : Int) := by omega
  have k61 : (k : Int) < 61 := by omega
  obtain ⟨M, hM⟩ : ∃ M, lmid k d D nd 0 tr = M := ⟨_, rfl⟩
  have HM := Lib.hid (show M = lmid k d D nd 0 tr from hM.symm)
  have hMs := lmid_says ov dl3 nd D 0 tr hLI
  rw [hM] at HX hMs
  clear hd hM g2 c1 c2 dl1 dl2
  have hdk : (d : Int) = (dlt k : Int) - (if pl D nd (cut k) 0 then 1 else 0) := by rw [hdl]; split <;> omega
  obtain ⟨pb, hpb⟩ : ∃ pb, pl D nd (cut k) 0 = pb := ⟨_, rfl⟩
  rw [hpb] at PR hdk
  generalize dlt k = dk at *
  have HD := Lib.hid hdk
  clear hdl hdk hpb
  go_enter Tryz.func188, Tryz.ntmps188
  have cnd := fun x : PW w => (h.pur x.pur).cnd
  simp only at cnd
  have g1' := fun x : PW w => cell_pur g1 x.pur
  have g4' := fun x : PW w => cell_pur g4 x.pur
  have on' : (nd : Int) ≤ 800 := by omega
  have on0 : (0 : Int) ≤ (nd : Int) := by omega
  go_upto_region 1 with (fail)
  go_cut [30] from 17 to 30 (fun s wx => s = .bool pb ∧ Pur w wx)
  case first =>
    clear HX HM HD
    go_wp2_with fail
    refine wp_region_pur (by kernel_rfl) (by kernel_rfl) ?_
    repeat (go_big_quiet_step (((go_at_call 201; with_reducible exact quiet_pur (PR _)))))
    refine wpQuiet_nil ?_
    intro w1 h1
    go_wp2
    go_meet
    exact ⟨rfl, h1⟩
  case rest =>
  obtain ⟨rfl, p1⟩ := hcut
  go_upto_if 30 with (fail)
  go_cut [4] from 31 to 32 (fun t wx => t = .int .i64 (d : Int) ∧ Pur w wx)
  case first =>
    cases pb with
    | true =>
      have w2 : IntKind.i64.wrap ((dk : Int) - 1) = (d : Int) := by
        have hD : (d : Int) = (dk : Int) - 1 := by rw [HD.out]; simp
        rw [hD]; exact IntWalk.i64_in _ (by omega)
      clear HX HM HD
      go_wp2
      go_meet
      exact ⟨rfl, p1⟩
    | false =>
      have w2 : (dk : Int) = (d : Int) := by rw [HD.out]; simp
      clear HX HM HD
      go_wp2
      go_meet
      exact ⟨by rw [w2], p1⟩
  case rest =>
    clear p1
    obtain ⟨rfl, p1⟩ := hcut
    clear HD PR cnd g1' g4' g3 g4 g1 c3 c4
    have h1 := h.pur p1
    have gg1 := Chg.of_pur (S := [b]) p1
    have cn := h1.cnd
    simp only at cn
    clear h p1
    have wa : IntKind.i64.wrap ((nd : Int) + (d : Int)) = (nd : Int) + (d : Int) := IntWalk.i64_in _ (by omega)
    have wb : IntKind.i64.wrap ((nd : Int) - 1) = (nd : Int) - 1 := IntWalk.i64_in _ (by omega)
    go_upto_block 0 with (fail)
    go_cut [6, 7] from 45 to 84 (fun v n wx => v = .int .i64 (d : Int) ∧ n = .int .u64 (M.2.1 : Int) ∧ DW ng wx b ⟨M.1, nd, dp, M.2.2⟩ ∧ Chg [b] w wx)
    case first =>
      clear HX hMs wa wb
      go_wp2_with fail
      go_loopw [5, 6, 7] (fun r v n wr => ∃ (i m : Nat) (E : List Nat) (t : Bool) (r1 v1 : Int), r = .int .i64 r1 ∧ v = .int .i64 v1 ∧ n = .int .u64 (m : Int) ∧ Hid (r1 = (i : Int) - 1) ∧ Hid (v1 = (i : Int) + (d : Int)) ∧ LI k d nd D E i m ∧ DW ng wr b ⟨E, nd, dp, t⟩ ∧ Chg [b] w wr ∧ Hid (M = lmid k d E i m t)) (fun r _ _ _ => (intOf r + 1).toNat)
      case atStart => exact ⟨nd, 0, D, tr, _, _, rfl, rfl, rfl, Lib.hid rfl, Lib.hid rfl, hLI, h1, gg1, HM⟩
      case round =>
        obtain ⟨i, m, E, t, r1, v1, rfl, rfl, rfl, hr1, hv1, hL2, hw, hg, HS⟩ := hrel
        clear HM h1 gg1
        have hr1 := hr1.out
        have hv1 := hv1.out
        rcases i with _ | j
        · have d1 : decide ((0 : Int) ≤ r1) = false := by rw [decide_eq_false_iff_not]; omega
          have HN := Lib.hid (show M = (E, m, t) from HS.out)
          have e1 : v1 = (d : Int) := by omega
          subst e1
          clear HS hr1 hv1
          go_wp2
          go_meet
          rw [HN.out]
          exact ⟨rfl, rfl, hw, hg⟩
        · have e1 : r1 = (j : Int) := by omega
          subst e1
          obtain ⟨q, hq⟩ : ∃ q : Nat, q = j + d := ⟨_, rfl⟩
          have wv : IntKind.i64.wrap (v1 - 1) = (q : Int) := by rw [show v1 - 1 = (q : Int) by omega]; exact IntWalk.i64_in _ (by have := hL2.le; omega)
          have d1 : decide ((0 : Int) ≤ (j : Int)) = true := by rw [decide_eq_true_eq]; omega
          have hle := hL2.le
          obtain ⟨n1, n2, n3, n4⟩ := hL2.next ov dl3
          have hvj := ov j (by omega)
          rw [← hL2.pre j (by omega)] at hvj
          have ci := hw.cd (i := j) (by omega)
          simp only at ci
          have j8 : (j : Int) < 800 := by omega
          have j0 : (0 : Int) ≤ (j : Int) := by omega
          have c9 : dg E j - 48 ≤ 9 := by omega
          obtain ⟨C, hC⟩ : ∃ C, (dg E j - 48) * 2 ^ k = C := ⟨_, rfl⟩
          have hCi : ((dg E j : Int) - 48) * 2 ^ k = (C : Int) := by
            rw [← hC, Int.natCast_mul, Int.natCast_pow, show ((dg E j - 48 : Nat) : Int) = (dg E j : Int) - 48 by omega]; rfl
          rw [hC] at n1 n2 n3 n4
          have HS2 := Lib.hid (show M = if q < 800 then lmid k d (E.set q ((m + C) % 10 + 48)) j ((m + C) / 10) t else lmid k d E j ((m + C) / 10) (t || decide ((m + C) % 10 ≠ 0)) by rw [HS.out, lmid, hC, hq])
          have wc : IntKind.u64.wrap (dg E j : Int) = (dg E j : Int) := IntWalk.u64_in _ (by omega)
          have wd : IntKind.u64.wrap ((dg E j : Int) - 48) = (dg E j : Int) - 48 := IntWalk.u64_in _ (by omega)
          have we : IntKind.u64.wrap (((dg E j : Int) - 48) * 2 ^ k) = (C : Int) := by rw [hCi]; exact IntWalk.u64_in _ (by omega)
          obtain ⟨N1, hN1⟩ : ∃ N1, m + C = N1 := ⟨_, rfl⟩
          rw [hN1] at n1 n2 n3 n4 HS2
          have wf : IntKind.u64.wrap ((m : Int) + (C : Int)) = (N1 : Int) := by rw [show (m : Int) + (C : Int) = (N1 : Int) by omega]; exact IntWalk.u64_in _ (by omega)
          obtain ⟨Q, hQ⟩ : ∃ Q, N1 / 10 = Q := ⟨_, rfl⟩
          obtain ⟨R, hR⟩ : ∃ R, N1 % 10 = R := ⟨_, rfl⟩
          rw [hQ] at n1 n3 n4 HS2
          rw [hR] at n3 HS2
          have eq1 : (N1 : Int) / 10 = (Q : Int) := by omega
          have wQ : IntKind.u64.wrap (Q : Int) = (Q : Int) := IntWalk.u64_in _ (by omega)
          have wg : IntKind.u64.wrap (10 * (Q : Int)) = 10 * (Q : Int) := IntWalk.u64_in _ (by omega)
          have wh : IntKind.u64.wrap ((N1 : Int) - 10 * (Q : Int)) = (R : Int) := by rw [show (N1 : Int) - 10 * (Q : Int) = (R : Int) by omega]; exact IntWalk.u64_in _ (by omega)
          have wj : IntKind.i64.wrap ((j : Int) - 1) = (j : Int) - 1 := IntWalk.i64_in _ (by omega)
          have Rl : R ≤ 9 := by omega
          by_cases q8 : q < 800
          · have q8' : (q : Int) < 800 := by omega
            have q0 : (0 : Int) ≤ (q : Int) := by omega
            have HN := Lib.hid (HS2.out.trans (if_pos q8))
            have hL3 := n3 (by omega)
            rw [← hq] at hL3
            have w7 : IntKind.u64.wrap ((R : Int) + 48) = (R : Int) + 48 := IntWalk.u64_in _ (by omega)
            have w8 : IntKind.u8.wrap ((R : Int) + 48) = (R : Int) + 48 := by rw [IntKind.wrap_u8]; omega
            have fj := hw.free q
            have cj := hw.cd (i := q) (by omega)
            simp only at cj
            have hw3 := hw.setd (i := q) (by omega) (v := R + 48) (by omega)
            simp only at hw3
            have hg3 := hg.trans (chg_set wr b q (.int .u8 ((R + 48 : Nat) : Int)))
            rw [show ((R + 48 : Nat) : Int) = (R : Int) + 48 by omega] at hw3 hg3
            have hv2 := Lib.hid (show (q : Int) = (j : Int) + (d : Int) by omega)
            clear HS HS2 hr1 hv1 hq hN1 hQ hR hC hCi n1 n2 n3 n4 hL2 c9
            go_wp2
            go_roundw
            case rel => exact ⟨j, Q, E.set q (R + 48), t, _, _, rfl, rfl, rfl, Lib.hid rfl, hv2, hL3, hw3, hg3, HN⟩
            case measure => simp [intOf]
          · have q8' : ¬ (q : Int) < 800 := by omega
            have HN := Lib.hid (HS2.out.trans (if_neg q8))
            have hL3 := n4 (by omega)
            have hv2 := Lib.hid (show (q : Int) = (j : Int) + (d : Int) by omega)
            by_cases u0 : R = 0
            · have d2 : ((R : Int) != 0) = false := by rw [bne_eq_false_iff_eq]; omega
              have HN2 := Lib.hid (show M = lmid k d E j Q t by rw [HN.out, u0]; simp)
              clear HS HS2 hr1 hv1 hq hN1 hQ hR hC hCi n1 n2 n3 n4 hL2 c9 HN
              go_wp2
              go_roundw
              case rel => exact ⟨j, Q, E, t, _, _, rfl, rfl, rfl, Lib.hid rfl, hv2, hL3, hw, hg, HN2⟩
              case measure => simp [intOf]
            · have d2 : ((R : Int) != 0) = true := by rw [bne_iff_ne]; omega
              have f3 := hw.free 803
              have c3 := hw.ctr
              simp only at c3
              have hw3 := hw.settr true
              simp only at hw3
              have hg3 := hg.trans (chg_set wr b 803 (.bool true))
              have HN2 := Lib.hid (show M = lmid k d E j Q true by rw [HN.out]; simp [u0])
              clear HS HS2 hr1 hv1 hq hN1 hQ hR hC hCi n1 n2 n3 n4 hL2 c9 HN
              go_wp2
              go_roundw
              case rel => exact ⟨j, Q, E, true, _, _, rfl, rfl, rfl, Lib.hid rfl, hv2, hL3, hw3, hg3, HN2⟩
              case measure => simp [intOf]
    case rest =>
      obtain ⟨rfl, rfl, hw, hg⟩ := hcut
      obtain ⟨E0, n0, t0⟩ := M
      simp only at HX hMs hw
      have hEI := hES hMs
      obtain ⟨T, hT⟩ : ∃ T, lext E0 d n0 t0 = T := ⟨_, rfl⟩
      have HT := Lib.hid (show T = lext E0 d n0 t0 from hT.symm)
      rw [hT] at HX
      clear hT HM h1 gg1 hLI hMs hES wa wb cn
      go_upto_block 2 with (fail)
      go_wp2_with fail
      go_loopw [6, 7] (fun v n wr => ∃ (i m : Nat) (E : List Nat) (t : Bool), v = .int .i64 (i : Int) ∧ n = .int .u64 (m : Int) ∧ EI (min (nd + d) 800) E i m ∧ DW ng wr b ⟨E, nd, dp, t⟩ ∧ Chg [b] w wr ∧ Hid (T = lext E i m t)) (fun v _ _ => (intOf v).toNat)
      case atStart => exact ⟨d, n0, E0, t0, rfl, rfl, hEI, hw, hg, HT⟩
      case round =>
        obtain ⟨i, m, E, t, rfl, rfl, hE, hw2, hg2, HS⟩ := hrel
        clear HT hw hg hEI
        rcases i with _ | j
        · have z : m = 0 := by have := hE.up; rw [Nat.pow_zero] at this; omega
          subst z
          have HN := Lib.hid (show T = (E, t) from HS.out)
          have cn := hw2.cnd
          simp only at cn
          have f8 := hw2.free 800
          have wa : IntKind.i64.wrap ((nd : Int) + (d : Int)) = ((nd + d : Nat) : Int) := by rw [show (nd : Int) + (d : Int) = ((nd + d : Nat) : Int) by omega]; exact IntWalk.i64_in _ (by omega)
          have we : IntKind.i64.wrap (dp + (d : Int)) = dp + (d : Int) := IntWalk.i64_in _ (by omega)
          have h3 := hw2.setnd (nd + d)
          simp only at h3
          have g3 := hg2.trans (chg_set wr b 800 (.int .i64 ((nd + d : Nat) : Int)))
          obtain ⟨s, hs⟩ : ∃ s, nd + d = s := ⟨_, rfl⟩
          rw [hs] at wa h3 g3 HX
          have sl : s ≤ 819 := by omega
          clear hs HS hE
          by_cases s8 : 800 ≤ s
          · have d1 : decide ((800 : Int) ≤ (s : Int)) = true := by rw [decide_eq_true_eq]; omega
            have h4 := h3.setnd 800
            simp only at h4
            have g4 := g3.trans (chg_set _ b 800 (.int .i64 ((800 : Nat) : Int)))
            rw [show ((800 : Nat) : Int) = 800 from rfl] at h4 g4
            have h5 := h4.setdp (dp + (d : Int))
            simp only at h5
            have g5 := g4.trans (chg_set _ b 801 (.int .i64 (dp + (d : Int))))
            have c3 := h3.cnd
            have f3 := h3.free 800
            have c4 := h4.cdp
            have f4 := h4.free 801
            simp only at c3 c4
            have TR := trim_any h5 (by simp)
            have HX2 := Lib.hid (show X = trim ⟨E, 800, dp + (d : Int), t⟩ by rw [HX.out, HN.out, Nat.min_eq_right s8])
            clear HX HN h5 h4 h3 hw2 g4 g3
            go_wp2_with fail
            refine TR.mono ?_
            rintro e w9 ⟨rfl, t1, t2⟩
            go_wp2
            refine bodyPost_end (results_none rfl _ _ _) rfl ⟨rfl, ?_, g5.trans t2⟩
            rw [HX2.out]
            exact t1
          · have d1 : decide ((800 : Int) ≤ (s : Int)) = false := by rw [decide_eq_false_iff_not]; omega
            have h5 := h3.setdp (dp + (d : Int))
            simp only at h5
            have g5 := g3.trans (chg_set _ b 801 (.int .i64 (dp + (d : Int))))
            have c3 := h3.cnd
            have c4 := h3.cdp
            have f4 := h3.free 801
            simp only at c3 c4
            have TR := trim_any h5 (by simp only; omega)
            have HX2 := Lib.hid (show X = trim ⟨E, s, dp + (d : Int), t⟩ by rw [HX.out, HN.out, Nat.min_eq_left (by omega)])
            clear HX HN h5 h3 hw2 g3
            go_wp2_with fail
            refine TR.mono ?_
            rintro e w9 ⟨rfl, t1, t2⟩
            go_wp2
            refine bodyPost_end (results_none rfl _ _ _) rfl ⟨rfl, ?_, g5.trans t2⟩
            rw [HX2.out]
            exact t1
        · obtain ⟨m0, hE2⟩ := hE.next
          have hj := hE.w19
          have mp : 0 < m := by omega
          have hup := hE.up
          have hm64 : m < 10 ^ 20 := Nat.lt_of_lt_of_le hup (Nat.pow_le_pow_right (by decide) (by omega))
          have hm64' : m < 18446744073709551616 := by
            have : m < 10 ^ 19 := Nat.lt_of_lt_of_le hup (Nat.pow_le_pow_right (by decide) (by omega))
            omega
          have HN := Lib.hid (show T = lext (E.set j (m % 10 + 48)) j (m / 10) t by rw [HS.out, lext, if_neg m0, if_pos (by omega)])
          obtain ⟨Q, hQ⟩ : ∃ Q, m / 10 = Q := ⟨_, rfl⟩
          obtain ⟨R, hR⟩ : ∃ R, m % 10 = R := ⟨_, rfl⟩
          rw [hQ, hR] at HN hE2
          have d1 : decide ((0 : Int) < (m : Int)) = true := by rw [decide_eq_true_eq]; omega
          have eq1 : (m : Int) / 10 = (Q : Int) := by omega
          have wQ : IntKind.u64.wrap (Q : Int) = (Q : Int) := IntWalk.u64_in _ (by omega)
          have wg : IntKind.u64.wrap (10 * (Q : Int)) = 10 * (Q : Int) := IntWalk.u64_in _ (by omega)
          have wh : IntKind.u64.wrap ((m : Int) - 10 * (Q : Int)) = (R : Int) := by rw [show (m : Int) - 10 * (Q : Int) = (R : Int) by omega]; exact IntWalk.u64_in _ (by omega)
          have wj : IntKind.i64.wrap (((j + 1 : Nat) : Int) - 1) = (j : Int) := by rw [show ((j + 1 : Nat) : Int) - 1 = (j : Int) by omega]; exact IntWalk.i64_in _ (by omega)
          have Rl : R ≤ 9 := by omega
          have j8 : (j : Int) < 800 := by omega
          have j0 : (0 : Int) ≤ (j : Int) := by omega
          have w7 : IntKind.u64.wrap ((R : Int) + 48) = (R : Int) + 48 := IntWalk.u64_in _ (by omega)
          have w8 : IntKind.u8.wrap ((R : Int) + 48) = (R : Int) + 48 := by rw [IntKind.wrap_u8]; omega
          have fj := hw2.free j
          have cj := hw2.cd (i := j) (by omega)
          simp only at cj
          have hw3 := hw2.setd (i := j) (by omega) (v := R + 48) (by omega)
          simp only at hw3
          have hg3 := hg2.trans (chg_set wr b j (.int .u8 ((R + 48 : Nat) : Int)))
          rw [show ((R + 48 : Nat) : Int) = (R : Int) + 48 by omega] at hw3 hg3
          clear HS hQ hR hup hm64 hm64' hE
          go_wp2
          go_roundw
          case rel => exact ⟨j, Q, E.set j (R + 48), t, rfl, rfl, hE2, hw3, hg3, HN⟩
          case measure => simp [intOf]
end Dc
end Go.Proofs.YtapgibcdbggpkaaGreatDoor
