/- The library's decimal, shifted by any number of places; rounding. The library's decimal, rounded to a whole number. A scope with two labels ahead: what stands behind each is walked from each jump. -/
import Derived.Test.YtapgibcdbggpkaaGreatDoorDcY
import Derived.Scope
namespace Go.Proofs.YtapgibcdbggpkaaGreatDoor
open Go Go.RowKit
set_option linter.all false
namespace Dc
variable {ng : Bool}
theorem pur_chg {w0 w w' : World} {b : Nat} (hp : Pur w0 w) (hc : Chg [b] w w') (hb : w0.heap.size ≤ b) : Pur w0 w' :=
  ((Chg.of_pur (S := [b]) hp).trans hc).to_pur fun k hk => by rw [List.mem_singleton] at hk; omega
set_option maxRecDepth 100000 in
set_option maxHeartbeats 8000000 in
theorem shl_any {w0 w : World} {b k : Nat} {x : Dec} (hL : LCT w0) (hp : Pur w0 w) (hb : w0.heap.size ≤ b) (h : DW ng w b x) (ok : Ok x) (k1 : 1 ≤ k) (k2 : k ≤ 10000) (ld : -500000000000000 ≤ x.dp) (dh : x.dp ≤ 500000000000000) :
    Calls Tryz.prog 150 #[.pointer (some ⟨b, 0, none⟩), .int .i64 (k : Int)] w fun e w' => e = .returned (.tuple #[]) ∧ DW ng w' b (shl k x) ∧ Chg [b] w w' := by
  have hnd := ok.pos
  have c0 := h.cnd
  have d0 : ((x.nd : Int) == 0) = false := by rw [beq_eq_false_iff_ne]; omega
  have d1 : decide ((0 : Int) < (k : Int)) = true := by rw [decide_eq_true_eq]; omega
  have d1' : 0 < k := by omega
  obtain ⟨X, hX⟩ : ∃ X, shl k x = X := ⟨_, rfl⟩
  have HX := Lib.hid (show X = shl k x from hX.symm)
  rw [hX]
  clear hX
  go_enter Tryz.func150, Tryz.ntmps150
  go_wp2
  go_loopw [1] (fun v wr => ∃ (j : Nat) (y : Dec), v = .int .i64 (j : Int) ∧ 1 ≤ j ∧ j ≤ k ∧ Ok y ∧ -500000000000000 ≤ y.dp ∧ y.dp + 19 * (j : Int) ≤ 500000000000000 + 19 * (k : Int) ∧ DW ng wr b y ∧ Chg [b] w wr ∧ Hid (X = shl j y)) (fun v _ => (intOf v).toNat)
  case atStart => exact ⟨k, x, rfl, k1, Nat.le_refl _, ok, ld, by omega, h, Chg.refl _ _, HX⟩
  case round =>
    obtain ⟨j, y, rfl, j1, jk, oy, l1, l2, hy, hc, HS⟩ := hrel
    clear HX h ok c0 d0 hnd
    have hLj := hL.pur (pur_chg hp hc hb)
    by_cases a : 60 < j
    · have e1 : decide ((60 : Int) < (j : Int)) = true := by rw [decide_eq_true_eq]; omega
      have LS := lshift_any (k := 60) hy hLj oy (by decide) (by decide) (by omega) (by omega)
      rw [show ((60 : Nat) : Int) = 60 from rfl] at LS
      have s1 := (lsh_says oy (k := 60) (by decide) (by decide)).1
      obtain ⟨s2, s3, -⟩ := lsh_up oy (k := 60) (by decide) (by decide)
      have wj : IntKind.i64.wrap ((j : Int) - 60) = ((j - 60 : Nat) : Int) := by rw [show ((j - 60 : Nat) : Int) = (j : Int) - 60 by omega]; exact IntWalk.i64_in _ (by omega)
      have HN := Lib.hid (show X = shl (j - 60) (lsh 60 y) by rw [HS.out, shl, if_pos a])
      generalize lsh 60 y = z at *
      have hj : ((j - 60 : Nat) : Int) = (j : Int) - 60 := by omega
      generalize j - 60 = i at *
      have i1 : 1 ≤ i := by omega
      have ik : i ≤ k := by omega
      have im : i < j := by omega
      have iz : z.dp + 19 * (i : Int) ≤ 500000000000000 + 19 * (k : Int) := by omega
      have iy : -500000000000000 ≤ z.dp := by omega
      clear HS hj hL
      go_wp2_with fail
      refine LS.mono ?_
      rintro e w9 ⟨rfl, t1, t2⟩
      go_wp2
      go_roundw
      case rel => exact ⟨i, z, rfl, i1, ik, s1, iy, iz, t1, hc.trans t2, HN⟩
      case measure => simp [intOf]; exact im
    · have e1 : decide ((60 : Int) < (j : Int)) = false := by rw [decide_eq_false_iff_not]; omega
      have LS := lshift_any (k := j) hy hLj oy j1 (by omega) (by omega) (by omega)
      have wj : IntKind.u64.wrap (j : Int) = (j : Int) := IntWalk.u64_in _ (by omega)
      have HN := Lib.hid (show X = lsh j y by rw [HS.out, shl, if_neg a])
      clear HS hL
      go_wp2_with fail
      refine LS.mono ?_
      rintro e w9 ⟨rfl, t1, t2⟩
      go_wp2
      refine bodyPost_end (results_none rfl _ _ _) rfl ⟨rfl, ?_, hc.trans t2⟩
      rw [HN.out]
      exact t1
set_option maxRecDepth 100000 in
set_option maxHeartbeats 8000000 in
theorem shr_any {w : World} {b k : Nat} {x : Dec} (h : DW ng w b x) (ok : Ok x) (k1 : 1 ≤ k) (k2 : k ≤ 10000000000) (ld : -1000000000000000 + 864 * (k : Int) ≤ x.dp) (dh : x.dp ≤ 1000000000000000) :
    Calls Tryz.prog 150 #[.pointer (some ⟨b, 0, none⟩), .int .i64 (-(k : Int))] w fun e w' => e = .returned (.tuple #[]) ∧ DW ng w' b (shr k x) ∧ Chg [b] w w' := by
  have hnd := ok.pos
  have c0 := h.cnd
  have d0 : ((x.nd : Int) == 0) = false := by rw [beq_eq_false_iff_ne]; omega
  have d1 : decide ((0 : Int) < -(k : Int)) = false := by rw [decide_eq_false_iff_not]; omega
  have d2 : decide (-(k : Int) < 0) = true := by rw [decide_eq_true_eq]; omega
  have d2' : 0 < k := by omega
  obtain ⟨X, hX⟩ : ∃ X, shr k x = X := ⟨_, rfl⟩
  have HX := Lib.hid (show X = shr k x from hX.symm)
  rw [hX]
  obtain ⟨K, hK⟩ : ∃ K, -(k : Int) = K := ⟨_, rfl⟩
  rw [hK] at d1 d2 ⊢
  have HK := Lib.hid (show K = -(k : Int) from hK.symm)
  clear hX hK
  go_enter Tryz.func150, Tryz.ntmps150
  go_wp2
  go_loopw [1] (fun v wr => ∃ (j : Nat) (K : Int) (y : Dec), v = .int .i64 K ∧ Hid (K = -(j : Int)) ∧ 1 ≤ j ∧ j ≤ k ∧ Ok y ∧ -1000000000000000 + 864 * (j : Int) ≤ y.dp ∧ y.dp ≤ 1000000000000000 ∧ DW ng wr b y ∧ Chg [b] w wr ∧ Hid (X = shr j y)) (fun v _ => (-(intOf v)).toNat)
  case atStart => exact ⟨k, K, x, rfl, HK, k1, Nat.le_refl _, ok, ld, by omega, h, Chg.refl _ _, HX⟩
  case round =>
    obtain ⟨j, K, y, rfl, hK, j1, jk, oy, l1, l2, hy, hc, HS⟩ := hrel
    clear HX HK h ok c0 d0 hnd d1 d2
    have hKo := hK.out
    by_cases a : 60 < j
    · have e1 : decide (K < -60) = true := by rw [decide_eq_true_eq]; omega
      have LS := rshift_any (k := 60) hy oy (by decide) (by decide) (by omega) (by omega)
      rw [show ((60 : Nat) : Int) = 60 from rfl] at LS
      have s1 := (rsh_says oy (k := 60) (by decide)).1
      obtain ⟨s2, s3, -⟩ := rsh_down oy (k := 60) (by decide) (by decide)
      have wj : IntKind.i64.wrap (K + 60) = K + 60 := IntWalk.i64_in _ (by omega)
      have HN := Lib.hid (show X = shr (j - 60) (rsh 60 y) by rw [HS.out, shr, if_pos a])
      generalize rsh 60 y = z at *
      have hj : ((j - 60 : Nat) : Int) = (j : Int) - 60 := by omega
      generalize j - 60 = i at *
      have i1 : 1 ≤ i := by omega
      have ik : i ≤ k := by omega
      have im := Lib.hid (show (-(K + 60)).toNat < (-K).toNat by omega)
      have iz : -1000000000000000 + 864 * (i : Int) ≤ z.dp := by omega
      have iy : z.dp ≤ 1000000000000000 := by omega
      have iK := Lib.hid (show K + 60 = -(i : Int) by omega)
      clear HS hj hK hKo
      go_wp2_with fail
      refine LS.mono ?_
      rintro e w9 ⟨rfl, t1, t2⟩
      go_wp2
      go_roundw
      case rel => exact ⟨i, K + 60, z, rfl, iK, i1, ik, s1, iz, iy, t1, hc.trans t2, HN⟩
      case measure => simp only [intOf]; exact im.out
    · have e1 : decide (K < -60) = false := by rw [decide_eq_false_iff_not]; omega
      have LS := rshift_any (k := j) hy oy j1 (by omega) (by omega) (by omega)
      have wk : IntKind.i64.wrap (-K) = (j : Int) := by rw [hKo, Int.neg_neg]; exact IntWalk.i64_in _ (by omega)
      have wj : IntKind.u64.wrap (j : Int) = (j : Int) := IntWalk.u64_in _ (by omega)
      have HN := Lib.hid (show X = rsh j y by rw [HS.out, shr, if_neg a])
      clear HS hK hKo
      go_wp2_with fail
      refine LS.mono ?_
      rintro e w9 ⟨rfl, t1, t2⟩
      go_wp2
      refine bodyPost_end (results_none rfl _ _ _) rfl ⟨rfl, ?_, hc.trans t2⟩
      rw [HN.out]
      exact t1
end Dc
end Go.Proofs.YtapgibcdbggpkaaGreatDoor
namespace Go.Proofs.YtapgibcdbggpkaaGreatDoor
open Go Go.RowKit
set_option linter.all false
namespace Dc
variable {ng : Bool}
set_option maxRecDepth 100000 in
set_option maxHeartbeats 8000000 in
theorem sru_any {w : World} {b : Nat} {x : Dec} (m : Int) (h : DW ng w b x) (hn : x.nd ≤ 800) (hv : V x.nd x.D) (m0 : -1000000000000000 ≤ m) (m1 : m ≤ 1000000000000000) :
    Calls Tryz.prog 190 #[.pointer (some ⟨b, 0, none⟩), .int .i64 m] w fun e w' => e = .returned (.bool (sru x m)) ∧ w = w' := by
  obtain ⟨D, nd, dp, tr⟩ := x
  simp only at hn hv
  have c0 := h.cnd
  have c3 := h.ctr
  simp only at c0 c3
  have HS : ∀ r, (if m < 0 ∨ (nd : Int) ≤ m then false else if dg D m.toNat = 53 ∧ m + 1 = (nd : Int) then (if tr then true else decide (0 < m) && ((dg D (m.toNat - 1) - 48) % 2 != 0)) else decide (53 ≤ dg D m.toNat)) = r → sru ⟨D, nd, dp, tr⟩ m = r := fun r hr => by unfold sru; exact hr
  by_cases g1 : m < 0
  · have d1 : decide (m < 0) = true := by rw [decide_eq_true_eq]; exact g1
    have HN := Lib.hid (HS false (by rw [if_pos (.inl g1)]))
    clear HS h g1
    go_enter Tryz.func190, Tryz.ntmps190
    go_wp2
    go_ret
    rw [HN.out]
    exact ⟨rfl, rfl⟩
  have d1 : decide (m < 0) = false := by rw [decide_eq_false_iff_not]; exact g1
  by_cases g2 : (nd : Int) ≤ m
  · have d2 : decide ((nd : Int) ≤ m) = true := by rw [decide_eq_true_eq]; exact g2
    have HN := Lib.hid (HS false (by rw [if_pos (.inr g2)]))
    clear HS h g1 g2
    go_enter Tryz.func190, Tryz.ntmps190
    go_wp2
    go_ret
    rw [HN.out]
    exact ⟨rfl, rfl⟩
  have d2 : decide ((nd : Int) ≤ m) = false := by rw [decide_eq_false_iff_not]; exact g2
  obtain ⟨j, rfl⟩ := Int.eq_ofNat_of_zero_le (show 0 ≤ m by omega)
  have hj := hv j (by omega)
  have cj := h.cd (i := j) (by omega)
  simp only at cj
  have j8 : (j : Int) < 800 := by omega
  have j0 : (0 : Int) ≤ (j : Int) := by omega
  have w1 : IntKind.i64.wrap ((j : Int) + 1) = (j : Int) + 1 := IntWalk.i64_in _ (by omega)
  have g2n : ¬ nd ≤ j := by omega
  clear m0 m1
  simp only [Int.toNat_natCast] at HS
  have n1 : ¬ ((j : Int) < 0 ∨ (nd : Int) ≤ (j : Int)) := by omega
  simp only [if_neg n1] at HS
  clear n1
  by_cases g3 : dg D j = 53
  · have d3 : ((dg D j : Int) == 53) = true := by rw [beq_iff_eq]; omega
    by_cases g4 : j + 1 = nd
    · subst g4
      have d4 : ((j : Int) + 1 == ((j + 1 : Nat) : Int)) = true := by rw [beq_iff_eq]; omega
      have n2 : dg D j = 53 ∧ (j : Int) + 1 = ((j + 1 : Nat) : Int) := ⟨g3, by omega⟩
      simp only [if_pos n2] at HS
      clear n2
      cases tr with
      | true =>
        have HN := Lib.hid (HS true rfl)
        clear HS h g1 g2 g3 hv
        go_enter Tryz.func190, Tryz.ntmps190
        go_wp2
        go_ret
        rw [HN.out]
        exact ⟨rfl, rfl⟩
      | false =>
        simp only [Bool.false_eq_true, if_false] at HS
        rcases j with _ | i
        · have HN := Lib.hid (HS false (by simp))
          clear HS h g1 g2 g3 hv
          go_enter Tryz.func190, Tryz.ntmps190
          go_wp2
          go_ret
          rw [HN.out]
          exact ⟨rfl, rfl⟩
        · have hi := hv i (by omega)
          have ci := h.cd (i := i) (by omega)
          simp only at ci
          have i8 : (i : Int) < 800 := by omega
          have i0 : (0 : Int) ≤ (i : Int) := by omega
          obtain ⟨c, hc⟩ : ∃ c, dg D i = c := ⟨_, rfl⟩
          rw [hc] at hi ci
          have d5 : decide ((0 : Int) < ((i + 1 : Nat) : Int)) = true := by rw [decide_eq_true_eq]; omega
          have w2 : IntKind.i64.wrap (((i + 1 : Nat) : Int) - 1) = (i : Int) := by rw [show ((i + 1 : Nat) : Int) - 1 = (i : Int) by omega]; exact IntWalk.i64_in _ (by omega)
          have w3 : IntKind.u8.wrap ((c : Int) - 48) = (c : Int) - 48 := by rw [IntKind.wrap_u8]; omega
          have tm : ((c : Int) - 48).tmod 2 = ((c : Int) - 48) % 2 := Int.tmod_eq_emod_of_nonneg (by omega)
          obtain ⟨r, hr⟩ : ∃ r, ((c - 48) % 2 != 0) = r := ⟨_, rfl⟩
          have d6 : (((c : Int) - 48) % 2 != 0) = r := by
            rw [← hr, Bool.eq_iff_iff, bne_iff_ne, bne_iff_ne]; omega
          have HN := Lib.hid (HS r (by rw [show i + 1 - 1 = i from rfl, hc, hr, d5]; rfl))
          clear HS h g1 g2 g3 hv hr hc
          go_enter Tryz.func190, Tryz.ntmps190
          go_wp2
          go_ret
          rw [HN.out]
          exact ⟨rfl, rfl⟩
    · have d4 : ((j : Int) + 1 == (nd : Int)) = false := by rw [beq_eq_false_iff_ne]; omega
      have d6 : decide ((53 : Int) ≤ (dg D j : Int)) = true := by rw [decide_eq_true_eq]; omega
      have d6' : 53 ≤ dg D j := by omega
      have HN := Lib.hid (HS true (by rw [if_neg (by omega)]; exact decide_eq_true d6'))
      clear HS h g1 g2 g3 hv
      go_enter Tryz.func190, Tryz.ntmps190
      go_wp2
      go_ret
      rw [HN.out]
      exact ⟨rfl, rfl⟩
  · have d3 : ((dg D j : Int) == 53) = false := by rw [beq_eq_false_iff_ne]; omega
    obtain ⟨r, hr⟩ : ∃ r, decide (53 ≤ dg D j) = r := ⟨_, rfl⟩
    have HN := Lib.hid (HS r (by rw [if_neg (fun h => g3 h.1), hr]))
    cases r with
    | true =>
      have d6' : 53 ≤ dg D j := by simpa using hr
      have d6 : decide ((53 : Int) ≤ (dg D j : Int)) = true := by rw [decide_eq_true_eq]; omega
      clear HS h g1 g2 hv hr
      go_enter Tryz.func190, Tryz.ntmps190
      go_wp2
      go_ret
      rw [HN.out]
      exact ⟨rfl, rfl⟩
    | false =>
      have d6' : ¬ 53 ≤ dg D j := by simpa using hr
      have d6 : decide ((53 : Int) ≤ (dg D j : Int)) = false := by rw [decide_eq_false_iff_not]; omega
      clear HS h g1 g2 hv hr
      go_enter Tryz.func190, Tryz.ntmps190
      go_wp2
      go_ret
      rw [HN.out]
      exact ⟨rfl, rfl⟩
theorem ri1_i (D : List Nat) (dp nd : Nat) : ∀ m i n, dp - i = m → (ri1 D dp nd i n).1 ≤ max i dp
  | m, i, n, hm => by
    rw [ri1]
    by_cases c : i < dp ∧ i < nd
    · rw [if_pos c]
      obtain ⟨m, rfl⟩ : ∃ j, m = j + 1 := ⟨m - 1, by omega⟩
      have := ri1_i D dp nd m (i + 1) ((n * 10 + (dg D i - 48)) % 18446744073709551616) (by omega)
      omega
    · rw [if_neg c]; simp only; omega
set_option maxRecDepth 100000 in
set_option maxHeartbeats 8000000 in
theorem rint_any {w : World} {b : Nat} {x : Dec} (h : DW ng w b x) (hn : x.nd ≤ 800) (hv : V x.nd x.D) (m0 : -1000000000000000 ≤ x.dp) (m1 : x.dp ≤ 1000000000000000) :
    Calls Tryz.prog 198 #[.pointer (some ⟨b, 0, none⟩)] w fun e w' => e = .returned (.int .u64 (rint x : Int)) ∧ w = w' := by
  have SR := sru_any x.dp h hn hv m0 m1
  obtain ⟨X, hX⟩ : ∃ X, rint x = X := ⟨_, rfl⟩
  have HX := Lib.hid (show X = if 20 < x.dp then 18446744073709551615 else (ri2 x.dp.toNat (ri1 x.D x.dp.toNat x.nd 0 0).1 (ri1 x.D x.dp.toNat x.nd 0 0).2 + (if sru x x.dp then 1 else 0)) % 18446744073709551616 from hX.symm)
  rw [hX]
  clear hX
  obtain ⟨r, hr⟩ : ∃ r, sru x x.dp = r := ⟨_, rfl⟩
  rw [hr] at SR HX
  clear hr
  have cd := fun (i : Nat) (hi : i < 800) => h.cd hi
  have cn := h.cnd
  have cp := h.cdp
  obtain ⟨D, nd, dp, tr⟩ := x
  simp only at hn hv SR HX cd cn cp m0 m1
  clear h
  by_cases g1 : 20 < dp
  · have d1 : decide ((20 : Int) < dp) = true := by rw [decide_eq_true_eq]; exact g1
    have HN := Lib.hid (HX.out.trans (if_pos g1))
    clear HX g1 SR
    go_enter Tryz.func198, Tryz.ntmps198
    go_wp2
    go_ret
    rw [HN.out]
    exact ⟨rfl, rfl⟩
  have d1 : decide ((20 : Int) < dp) = false := by rw [decide_eq_false_iff_not]; exact g1
  have HY := Lib.hid (HX.out.trans (if_neg g1))
  obtain ⟨P, hP⟩ : ∃ P, dp.toNat = P := ⟨_, rfl⟩
  have hPl : P ≤ 20 := by omega
  rw [hP] at HY
  have tst : ∀ i : Nat, decide ((i : Int) < dp) = decide (i < P) := fun i => by rw [decide_eq_decide]; omega
  obtain ⟨R, hR⟩ : ∃ R, ri1 D P nd 0 0 = R := ⟨_, rfl⟩
  have hRi := ri1_i D P nd _ 0 0 rfl
  rw [hR] at HY hRi
  have HR := Lib.hid (show R = ri1 D P nd 0 0 from hR.symm)
  obtain ⟨S, hS⟩ : ∃ S, ri2 P R.1 R.2 = S := ⟨_, rfl⟩
  rw [hS] at HY
  have HS := Lib.hid (show S = ri2 P R.1 R.2 from hS.symm)
  clear HX g1 hR hS hP m0 m1
  go_enter Tryz.func198, Tryz.ntmps198
  go_upto_block 0 with (fail)
  go_cut [3, 4] from 10 to 36 (fun i n wx => i = .int .i64 (R.1 : Int) ∧ n = .int .u64 (R.2 : Int) ∧ R.2 < 18446744073709551616 ∧ w = wx)
  case first =>
    clear HY HS SR
    go_wp2_with fail
    go_loopw [3, 4] (fun i n wr => ∃ (j m : Nat), i = .int .i64 (j : Int) ∧ n = .int .u64 (m : Int) ∧ m < 18446744073709551616 ∧ j ≤ 20 ∧ Hid (R = ri1 D P nd j m) ∧ wr = w) (fun i _ _ => 100 - (intOf i).toNat)
    case atStart => exact ⟨0, 0, rfl, rfl, by decide, by decide, HR, (by first | rfl | trivial)⟩
    case round =>
      obtain ⟨j, m, rfl, rfl, ml, jl, H, rfl⟩ := hrel
      clear HR
      have tj := tst j
      by_cases c1 : j < P
      · rw [decide_eq_true c1] at tj
        by_cases c2 : j < nd
        · have d2 : decide ((j : Int) < (nd : Int)) = true := by rw [decide_eq_true_eq]; omega
          have HN := Lib.hid (show R = ri1 D P nd (j + 1) ((m * 10 + (dg D j - 48)) % 18446744073709551616) by rw [H.out, ri1, if_pos ⟨c1, c2⟩])
          have hj := hv j c2
          have cj := cd j (by omega)
          have j8 : (j : Int) < 800 := by omega
          have j0 : (0 : Int) ≤ (j : Int) := by omega
          obtain ⟨c, hc⟩ : ∃ c, dg D j = c := ⟨_, rfl⟩
          rw [hc] at hj cj HN
          obtain ⟨A, hA⟩ : ∃ A, m * 10 % 18446744073709551616 = A := ⟨_, rfl⟩
          obtain ⟨Z, hZ⟩ : ∃ Z, (m * 10 + (c - 48)) % 18446744073709551616 = Z := ⟨_, rfl⟩
          have w1 : IntKind.u64.wrap ((m : Int) * 10) = (A : Int) := by rw [IntKind.wrap_u64]; omega
          have w2 : IntKind.u8.wrap ((c : Int) - 48) = (c : Int) - 48 := by rw [IntKind.wrap_u8]; omega
          have w3 : IntKind.u64.wrap ((c : Int) - 48) = (c : Int) - 48 := IntWalk.u64_in _ (by omega)
          have w4 : IntKind.u64.wrap ((A : Int) + ((c : Int) - 48)) = (Z : Int) := by rw [IntKind.wrap_u64]; omega
          have w5 : IntKind.i64.wrap ((j : Int) + 1) = (j : Int) + 1 := IntWalk.i64_in _ (by omega)
          have Zl : Z < 18446744073709551616 := by omega
          rw [hZ] at HN
          clear H hA hZ tst hv cd hc
          go_wp2
          go_roundw
          case rel => exact ⟨j + 1, Z, by push_cast; rfl, rfl, Zl, by omega, HN, (by first | rfl | trivial)⟩
          case measure => simp [intOf]; omega
        · have d2 : decide ((j : Int) < (nd : Int)) = false := by rw [decide_eq_false_iff_not]; omega
          have HN := Lib.hid (show R = (j, m) by rw [H.out, ri1, if_neg (fun h => c2 h.2)])
          clear H tst hv cd
          go_wp2
          go_meet
          rw [HN.out]
          exact ⟨rfl, rfl, ml, rfl⟩
      · rw [decide_eq_false c1] at tj
        have HN := Lib.hid (show R = (j, m) by rw [H.out, ri1, if_neg (fun h => c1 h.1)])
        clear H tst hv cd
        go_wp2
        go_meet
        rw [HN.out]
        exact ⟨rfl, rfl, ml, rfl⟩
  case rest =>
    obtain ⟨rfl, rfl, rl, rfl⟩ := hcut
    obtain ⟨i0, n0⟩ := R
    simp only at HY HS rl hRi
    clear HR hv cd
    go_upto_block 2 with (fail)
    go_cut [3, 4] from 37 to 46 (fun i n wx => n = .int .u64 (S : Int) ∧ S < 18446744073709551616 ∧ w = wx)
    case first =>
      clear HY SR
      go_wp2_with fail
      go_loopw [3, 4] (fun i n wr => ∃ (j m : Nat), i = .int .i64 (j : Int) ∧ n = .int .u64 (m : Int) ∧ m < 18446744073709551616 ∧ j ≤ 20 ∧ Hid (S = ri2 P j m) ∧ wr = w) (fun i _ _ => 100 - (intOf i).toNat)
      case atStart => exact ⟨i0, n0, rfl, rfl, rl, by omega, HS, (by first | rfl | trivial)⟩
      case round =>
        obtain ⟨j, m, rfl, rfl, ml, jl, H, rfl⟩ := hrel
        clear HS
        have tj := tst j
        by_cases c1 : j < P
        · rw [decide_eq_true c1] at tj
          obtain ⟨A, hA⟩ : ∃ A, m * 10 % 18446744073709551616 = A := ⟨_, rfl⟩
          have HN := Lib.hid (show S = ri2 P (j + 1) A by rw [H.out, ri2, if_pos c1, hA])
          have w1 : IntKind.u64.wrap ((m : Int) * 10) = (A : Int) := by rw [IntKind.wrap_u64]; omega
          have w5 : IntKind.i64.wrap ((j : Int) + 1) = (j : Int) + 1 := IntWalk.i64_in _ (by omega)
          have Al : A < 18446744073709551616 := by omega
          clear H hA tst
          go_wp2
          go_roundw
          case rel => exact ⟨j + 1, A, by push_cast; rfl, rfl, Al, by omega, HN, (by first | rfl | trivial)⟩
          case measure => simp [intOf]; omega
        · rw [decide_eq_false c1] at tj
          have HN := Lib.hid (show S = m by rw [H.out, ri2, if_neg c1])
          clear H tst
          go_wp2
          go_meet
          rw [HN.out]
          exact ⟨rfl, ml, rfl⟩
    case rest =>
      obtain ⟨rfl, sl, rfl⟩ := hcut
      clear HS tst
      cases r with
      | true =>
        have w1 : IntKind.u64.wrap ((S : Int) + 1) = (X : Int) := by
          have := HY.out
          simp only [if_true] at this
          rw [IntKind.wrap_u64]; omega
        clear HY
        go_wp2_with fail
        refine SR.mono ?_
        rintro e w9 ⟨rfl, rfl⟩
        go_wp2
        go_ret
        exact ⟨rfl, rfl⟩
      | false =>
        have w1 : X = S := by
          have := HY.out
          simp only [Bool.false_eq_true, if_false] at this
          omega
        have W1 := Lib.hid w1
        clear HY w1
        go_wp2_with fail
        refine SR.mono ?_
        rintro e w9 ⟨rfl, rfl⟩
        go_wp2
        go_ret
        rw [W1.out]
        exact ⟨rfl, rfl⟩
end Dc
end Go.Proofs.YtapgibcdbggpkaaGreatDoor
namespace Go.Proofs.YtapgibcdbggpkaaGreatDoor
open Go
set_option linter.all false
/-- as Q; by a goto to label 0: G0; to label 1: G1; by any other: no way out -/
def Exit.two (G0 G1 : Act → World → Prop) (Q : Exit → Act → World → Prop) : Exit → Act → World → Prop
  | .goto l, a, w => (l = 0 ∧ G0 a w) ∨ (l = 1 ∧ G1 a w)
  | e, a, w => Q e a w
section
variable {P : Program} {a : Act} {w : World} {Q : Exit → Act → World → Prop}
theorem wp_scope_two {c r0 r1 : Code} (h0 : findLabel c 0 = some r0) (h1 : findLabel c 1 = some r1)
    (first : ∀ G0 G1 : Act → World → Prop, (∀ a w, r0.wp P (Exit.noGoto Q) a w → G0 a w) → (∀ a w, r1.wp P (Exit.noGoto Q) a w → G1 a w) → c.wp P (Exit.two G0 G1 Q) a w) : (Code.scope c).wp P Q a w := by
  have H := first (fun a w => r0.wp P (Exit.noGoto Q) a w) (fun a w => r1.wp P (Exit.noGoto Q) a w) (fun _ _ h => h) (fun _ _ h => h)
  clear first
  intro b k cs
  have pass : ∀ (l : Nat) (r : Code), findLabel c l = some r → ∀ a₁ w₁, r.wp P (Exit.noGoto Q) a₁ w₁ →
      Arrives P (lone (b.at a (.code (.scope c) :: k)) cs w) b (.inScope c :: k) cs (.goto l) a₁ w₁ → ∃ e a' w', Q e a' w' ∧ Arrives P (lone (b.at a (.code (.scope c) :: k)) cs w) b k cs e a' w' := by
    intro l r hf a₁ w₁ hw harr
    have hg : gotoIn l (.inScope c :: k) = some (.code r :: .inScope c :: k) := by simp [gotoIn, hf]
    obtain ⟨e₂, a₂, w₂, hq₂, harr₂⟩ := hw b (.inScope c :: k) cs
    cases e₂ with
    | normal => exact ⟨.normal, a₂, w₂, hq₂, Steps.trans (harr _ hg) (Steps.trans harr₂ (.one step_inScope))⟩
    | exit id => exact ⟨.exit id, a₂, w₂, hq₂, fun k' hk => Steps.trans (harr _ hg) (harr₂ k' (by simp [exitTo, hk]))⟩
    | goto l' => exact hq₂.elim
    | ret => exact ⟨_, a₂, w₂, hq₂, .of_steps (harr _ hg) harr₂⟩
    | panic ch => exact ⟨_, a₂, w₂, hq₂, .of_steps (harr _ hg) harr₂⟩
    | outgrown => exact ⟨_, a₂, w₂, hq₂, .of_steps (harr _ hg) harr₂⟩
  obtain ⟨e, a₁, w₁, hq, harr⟩ := H b (.inScope c :: k) cs
  cases e with
  | normal => exact ⟨.normal, a₁, w₁, hq, .head step_scope (Steps.trans harr (.one step_inScope))⟩
  | exit id => exact ⟨.exit id, a₁, w₁, hq, fun k' hk => .head step_scope (harr k' (by simp [exitTo, hk]))⟩
  | goto l =>
    rcases hq with ⟨rfl, hG⟩ | ⟨rfl, hG⟩
    · exact pass 0 r0 h0 a₁ w₁ hG (fun k' hk => .head step_scope (harr k' hk))
    · exact pass 1 r1 h1 a₁ w₁ hG (fun k' hk => .head step_scope (harr k' hk))
  | ret => exact ⟨_, a₁, w₁, hq, .of_steps (.one step_scope) harr⟩
  | panic ch => exact ⟨_, a₁, w₁, hq, .of_steps (.one step_scope) harr⟩
  | outgrown => exact ⟨_, a₁, w₁, hq, .of_steps (.one step_scope) harr⟩
end
end Go.Proofs.YtapgibcdbggpkaaGreatDoor
