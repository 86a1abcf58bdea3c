/- strconv's number in the form d.ddde+dd: ftoa64 at a finite float above 0. -/
import Derived.Test.YtapgibcdbggpkaaGreatDoorFtB
import Derived.Test.YtapgibcdbggpkaaGreatDoorTbE
import Derived.Shelf.Unicode.PredsPay
namespace Go.Proofs.YtapgibcdbggpkaaGreatDoor
open Go Go.RowKit Go.Sort Go.Lib
set_option linter.all false
namespace Ft
open Us
/-- a float's digits and power -/
def dO (Hi Lo : Nat → Nat) (b : Nat) : Nat × Int := sh Hi Lo (mO b) (EO b)
/-- its text of the form d.ddde+dd -/
def fo (Hi Lo : Nat → Nat) (b : Nat) : List UInt8 := sci (dgT (dO Hi Lo b).1) ((nDigits (dO Hi Lo b).1 : Int) + (dO Hi Lo b).2)
theorem own_pur {w w' : World} {base : Nat} {e : TypeId} {size : Nat} {v : Value} {n : Nat} {xs : List Value} (h : w.ownsRow base e size v n xs) (hp : Pur w w') : w'.ownsRow base e size v n xs :=
  h.kept (row := none) ⟨hp.os, hp.tape, hp.output, hp.size, fun k hk _ => hp.block k hk⟩ (by cases v.ownBlock <;> simp)
set_option maxRecDepth 100000 in
set_option maxHeartbeats 32000000 in
theorem ftoa_any {Hi Lo : Nat → Nat} {B : Nat} {w : World} {v : Value} (b : Nat) (hT : PT Hi Lo w) (hB : Big Hi Lo) (hg : 15 < w.heap.size) (htab : Lib.TabIs Tryz.prog w "internal/strconv.uint64pow10" .u64 Lib.pow10Tab)
    (h0 : 0 < b) (h1 : b < 9218868437227405312) (hown : w.ownsRow B 5 1 v 0 []) (hBw : B ≤ w.heap.size) (hv : ∀ g, v.ownBlock = some g → B ≤ g ∧ g < w.heap.size) :
    Calls Tryz.prog 120 #[v, .float .f64 b, .int .u8 101, .int .i64 (-1)] w fun e w' => ∃ v', e = .returned v' ∧ w'.ownsRow B 5 1 v' (fo Hi Lo b).length (byteCells (fo Hi Lo b)) ∧ Below B w w' := by
  have h6 := @run_callFunc_extern Tryz.prog 142 _ Go.Extern.MathFloatBits.float64bits Tryz.func142 (by kernel_rfl) (by kernel_rfl) (by kernel_rfl) (by kernel_rfl)
  have fb : ∀ (n : Nat) (w : World), (Go.Extern.MathFloatBits.float64bits #[.float .f64 n]).run Tryz.prog w = .ok (.int .u64 (n : Int)) w := fun n w => rfl
  obtain ⟨hV, hbl1, hbl2⟩ := v_of h0 h1
  have hmp := maO_pos h0
  have hml := maO_lt b
  obtain ⟨M, hM⟩ : ∃ M, maO b = M := ⟨_, rfl⟩
  obtain ⟨x, hx⟩ : ∃ x, exO b = x := ⟨_, rfl⟩
  obtain ⟨f, hf⟩ : ∃ f, b % 4503599627370496 = f := ⟨_, rfl⟩
  have hxl : x ≤ 2046 := by rw [← hx]; unfold exO; omega
  have e1 : (b : Int) / 9223372036854775808 = 0 := by omega
  have e2 : (b : Int) / 4503599627370496 = (x : Int) := by rw [← hx]; unfold exO; omega
  have w2 : IntKind.i64.wrap (x : Int) = (x : Int) := IntWalk.i64_in _ (by omega)
  have e3 : bits .and .i64 (x : Int) 2047 = (x : Int) := by
    have := bits_mask .i64 63 (by decide) wraps_i64 11 (by decide) (x : Int) (by omega) (by omega)
    rw [show ((2 : Int) ^ 11 - 1) = 2047 from rfl] at this
    rw [this]; omega
  have e4 : bits .and .u64 (b : Int) 4503599627370495 = (f : Int) := by
    have := u64_and_nat b 4503599627370495 (by omega) (by decide)
    rw [show ((4503599627370495 : Nat) : Int) = 4503599627370495 from rfl] at this
    rw [this, show b &&& 4503599627370495 = f from by rw [← hf]; exact Nat.and_two_pow_sub_one_eq_mod b 52]
  have x1 : ((x : Int) == 2047) = false := by rw [beq_eq_false_iff_ne]; omega
  have m0 : ((M : Int) == 0) = false := by rw [beq_eq_false_iff_ne]; omega
  obtain ⟨y, hy⟩ : ∃ y : Nat, y = (if x = 0 then 1 else x) := ⟨_, rfl⟩
  have hyl : 1 ≤ y ∧ y ≤ 2046 := by rw [hy]; split <;> omega
  have hMf : M = if x = 0 then f else f + 4503599627370496 := by rw [← hM, ← hx, ← hf]; rfl
  have e5 : bits .or .u64 (f : Int) 4503599627370496 = ((f + 4503599627370496 : Nat) : Int) := by
    have := u64_or_nat f 4503599627370496 (by omega) (by decide)
    rw [show ((4503599627370496 : Nat) : Int) = 4503599627370496 from rfl] at this
    rw [this, Nat.or_comm]
    have h := Nat.two_pow_add_eq_or_of_lt (i := 52) (show f < 2 ^ 52 from by omega) 1
    rw [Nat.mul_one] at h
    rw [show (4503599627370496 : Nat) ||| f = 4503599627370496 + f from h.symm]
    omega
  have wx1 : IntKind.i64.wrap ((x : Int) + 1) = (x : Int) + 1 := IntWalk.i64_in _ (by omega)
  obtain ⟨s, hs⟩ : ∃ s, shO b = s := ⟨_, rfl⟩
  have hsl0 : s ≤ 63 ∧ (s : Int) = 64 - (Lib.bitLen M : Int) := by rw [← hs]; unfold shO; rw [hM] at hbl1 hbl2 ⊢; omega
  obtain ⟨m, hm⟩ : ∃ m, mO b = m := ⟨_, rfl⟩
  have hmM : m = M * 2 ^ s := by rw [← hm]; unfold mO; rw [hM, hs]
  obtain ⟨E, hE⟩ : ∃ E, EO b = E := ⟨_, rfl⟩
  have hEy : E = (y : Int) - 1023 - (s : Int) - 52 := by
    rw [← hE]; unfold EO; rw [hs, hx, hy]
    split <;> rfl
  obtain ⟨D, hD⟩ : ∃ D, dO Hi Lo b = D := ⟨_, rfl⟩
  have hDs : sh Hi Lo m E = D := by rw [← hD]; unfold dO; rw [hm, hE]
  rw [hm, hE] at hV
  have hpos := sh_pos hV hB
  rw [hDs] at hpos
  obtain ⟨cc, R, hTf, -, hRl⟩ := dgT_form hpos.1
  have hn20 : nDigits D.1 ≤ 20 := by have := numDigits_eq D.1 hpos.1 (by omega); split at this <;> omega
  have hfo := Lib.hid (show fo Hi Lo b = sci (cc :: R) ((nDigits D.1 : Int) + D.2) by unfold fo; rw [hD, hTf])
  have BL := fun w => Tryz.bits_Len64 (M : Int) w (by omega) (by omega)
  simp only [Int.toNat_natCast] at BL
  have wy : IntKind.i64.wrap ((y : Int) + -1023) = (y : Int) - 1023 := by rw [show (y : Int) + -1023 = (y : Int) - 1023 by omega]; exact IntWalk.i64_in _ (by omega)
  have wy2 : IntKind.i64.wrap ((y : Int) - 1023) = (y : Int) - 1023 := IntWalk.i64_in _ (by omega)
  obtain ⟨bl, hbl⟩ : ∃ bl, Lib.bitLen M = bl := ⟨_, rfl⟩
  rw [hbl] at BL hsl0
  have hs64 : s = 64 - bl := by omega
  have ws : IntKind.i64.wrap (64 - (bl : Int)) = 64 - (bl : Int) := IntWalk.i64_in _ (by omega)
  have wm : IntKind.u64.wrap ((M : Int) * 2 ^ (64 - bl)) = (m : Int) := by
    rw [show (M : Int) * 2 ^ (64 - bl) = (m : Int) by rw [hmM, hs64, Int.natCast_mul, Int.natCast_pow]; rfl]
    exact IntWalk.u64_in _ (by have := hV.m1; omega)
  have we : IntKind.i64.wrap ((y : Int) - 1023 - (64 - (bl : Int))) = (y : Int) - 1023 - (64 - (bl : Int)) := IntWalk.i64_in _ (by omega)
  have hEy2 : (y : Int) - 1023 - (64 - (bl : Int)) - 52 = E := by omega
  have we2 : IntKind.i64.wrap ((y : Int) - 1023 - (64 - (bl : Int)) - 52) = E := by rw [hEy2]; exact IntWalk.i64_in _ (by have := hV.e0; have := hV.e1; omega)
  have b64 : (bl : Int) ≤ 64 := by omega
  have b64' : bl ≤ 64 := by omega
  have b1' : 1 ≤ bl := by omega
  have s0 : (0 : Int) ≤ (s : Int) := by omega
  have s64 : s < 64 := by omega
  go_enter Tryz.func120, Tryz.ntmps120
  go_upto_region 14 with (fail)
  refine wp_region_pur (by kernel_rfl) (by kernel_rfl) ?_
  repeat (go_big_quiet_step (fail))
  refine wpQuiet_nil ?_
  intro wa pa
  go_upto_if 78 with (fail)
  go_cut [14, 15] from 77 to 84 (fun p q wx => p = .int .i64 (y : Int) ∧ q = .int .u64 (M : Int) ∧ wx = wa)
  case first =>
    by_cases hx0 : x = 0
    · subst hx0
      have hy1 : y = 1 := by rw [hy]; rfl
      have hM1 : M = f := by rw [hMf]; rfl
      go_wp2
      go_meet
      exact ⟨by rw [hy1]; rfl, by rw [hM1], rfl⟩
    · have hx1 : ((x : Int) == 0) = false := by rw [beq_eq_false_iff_ne]; omega
      have hy1 : y = x := by rw [hy, if_neg hx0]
      have hM1 : M = f + 4503599627370496 := by rw [hMf, if_neg hx0]
      go_wp2
      go_meet
      exact ⟨by rw [hy1], by rw [hM1, Int.natCast_add]; rfl, rfl⟩
  case rest =>
    obtain ⟨rfl, rfl, rfl⟩ := hcut
    clear e1 e2 w2 e3 e4 x1 e5 wx1 hy hMf hx hf hM hs hm hE hD hmM hEy hbl1 hbl2 hmp hml hbl hs64 hsl0 s0 s64
    go_wp2_with fail
    refine (BL _).mono ?_
    rintro e w1 ⟨rfl, rfl⟩
    have SH := fun (W : World) (hW : Pur w W) => short_any (w := W) m E (hT.pur hW) hB (Nat.lt_of_lt_of_le hg hW.size) hV
    rw [hDs] at SH
    go_wp2_with fail
    obtain ⟨W1, hW1⟩ : ∃ W1, W1 = wc.alloc (.cells z32 191) := ⟨_, rfl⟩
    have P1 : Pur wc W1 := by rw [hW1]; exact (Pur.refl _).alloc _
    have Q1 : W1.heap[wc.heap.size]? = some (.cells z32 191 (0, 0)) := by rw [hW1]; exact bk_new _ _
    refine (SH (wc.alloc (.cells z32 191)) (by rw [← hW1]; exact pa.trans P1)).mono ?_
    rw [← hW1]
    rintro e w2 ⟨rfl, p2⟩
    have Q2 := bk_pur Q1 p2
    have hq : w.heap.size ≤ wc.heap.size := pa.size
    have hP0 : Pur w w2 := pa.trans (P1.trans p2)
    clear hW1 Q1 SH
    obtain ⟨q, hqe⟩ : ∃ q, wc.heap.size = q := ⟨_, rfl⟩
    rw [hqe] at Q2 hq ⊢
    clear hqe P1 p2 pa
    have hsl : ∀ W, (Instr.sliceAt 191 (.pointer (some ⟨q, 0, none⟩)) none none none).run Tryz.prog W = .ok (.slice (some ⟨q, 0, none⟩) 32 32) W := fun W => by
      rw [run_sliceAt_array_all W 191 ⟨q, 0, none⟩ (by simp [Program.arrayLen, Program.elem, Tryz.underlying191])]
      simp [Program.arrayLen, Program.elem, Tryz.underlying191, slicedAt]
      go_simp
    go_upto_region 38 with (fail)
    go_cut [22, 23] from 139 to 147 (fun dp nd wx => dp = .int .i64 ((nDigits D.1 : Int) + D.2) ∧ nd = .int .i64 ((dgT D.1).length : Int) ∧ Chg [q] w2 wx ∧ ∀ j c, (decDigits D.1)[j]? = some c → wx.cell? ⟨q, j, none⟩ = some (.int .u8 (c.toNat : Int)))
    case first =>
      refine wp_region_until (T := fun w' => 0 ≤ w'.heap.size) 10 (by kernel_rfl) (Nat.zero_le _) (fun hT => ?_)
      refine wpAnyU_take (i := 0) (v := ?vu1) rfl (by kernel_rfl) (by kernel_rfl) (by kernel_rfl) (by kernel_rfl) (by kernel_rfl) (fun _ _ _ h => h) (Or.inl ⟨by rfl, ?hu1⟩) (by assumption) ?ru1
      case hu1 => (intro w9 hSw; (try dsimp only at hSw); go_simp; (try with_reducible rfl))
      simp only [Act.put, List.setIfInBounds_toArray, List.set_cons_zero, List.set_cons_succ]
      refine wpAnyU_take (i := 1) (v := ?vu2) rfl (by kernel_rfl) (by kernel_rfl) (by kernel_rfl) (by kernel_rfl) (by kernel_rfl) (fun _ _ _ h => h) (Or.inl ⟨by rfl, ?hu2⟩) (by assumption) ?ru2
      case hu2 => (intro w9 hSw; (try dsimp only at hSw); go_simp; (try with_reducible rfl))
      simp only [Act.put, List.setIfInBounds_toArray, List.set_cons_zero, List.set_cons_succ]
      refine wpAnyU_take (i := 2) (v := ?vu3) rfl (by kernel_rfl) (by kernel_rfl) (by kernel_rfl) (by kernel_rfl) (by kernel_rfl) (fun _ _ _ h => h) (Or.inl ⟨by rfl, ?hu3⟩) (by assumption) ?ru3
      case hu3 => (intro w9 hSw; (try dsimp only at hSw); go_simp; (try with_reducible rfl))
      simp only [Act.put, List.setIfInBounds_toArray, List.set_cons_zero, List.set_cons_succ]
      refine wpAnyU_take (i := 3) (v := ?vu4) rfl (by kernel_rfl) (by kernel_rfl) (by kernel_rfl) (by kernel_rfl) (by kernel_rfl) (fun _ _ _ h => h) (Or.inl ⟨by rfl, ?hu4⟩) (by assumption) ?ru4
      case hu4 => (intro w9 hSw; (try dsimp only at hSw); go_simp; (try with_reducible rfl))
      simp only [Act.put, List.setIfInBounds_toArray, List.set_cons_zero, List.set_cons_succ]
      refine wpAnyU_next (i := 4) (by kernel_rfl) rfl (fun K hK => ?_)
      go_simp
      have hw2 : Pur w w2.drew := hP0.trans ((Pur.refl w2).drew)
      refine (Tryz.internal_strconv_numDigits D.1 hpos.1 (by omega) w2.drew (TabIs_below (g := 5) (by kernel_rfl) htab hw2)).mono ?_
      rintro e w3 ⟨rfl, rfl⟩
      refine hK.out _ _ ?_ (fun hT => ?_)
      clear hK K
      try simp only [Act.put, List.setIfInBounds_toArray, List.set_cons_zero, List.set_cons_succ]
      · exact Nat.zero_le _
      refine wpAnyU_next (i := 5) (by kernel_rfl) rfl (fun K hK => ?_)
      go_simp
      refine (set_any D.1 D.2 (bk_pur Q2 ((Pur.refl w2).drew)) hpos.1 hpos.2.1 (by omega)).mono ?_
      rintro e w4 ⟨rfl, c4, hc4⟩
      refine hK.out _ _ ?_ (fun hT => ?_)
      clear hK K
      try simp only [Act.put, List.setIfInBounds_toArray, List.set_cons_zero, List.set_cons_succ]
      · exact Nat.zero_le _
      refine wpAnyU_take (i := 6) (v := ?vu5) rfl (by kernel_rfl) (by kernel_rfl) (by kernel_rfl) (by kernel_rfl) (by kernel_rfl) (fun _ _ _ h => h) (Or.inl ⟨by rfl, ?hu5⟩) (by assumption) ?ru5
      case hu5 => (intro w9 hSw; (try dsimp only at hSw); go_simp; (try with_reducible rfl))
      simp only [Act.put, List.setIfInBounds_toArray, List.set_cons_zero, List.set_cons_succ]
      refine wpAnyU_take (i := 7) (v := ?vu6) rfl (by kernel_rfl) (by kernel_rfl) (by kernel_rfl) (by kernel_rfl) (by kernel_rfl) (fun _ _ _ h => h) (Or.inl ⟨by rfl, ?hu6⟩) (by assumption) ?ru6
      case hu6 => (intro w9 hSw; (try dsimp only at hSw); go_simp; (try with_reducible rfl))
      simp only [Act.put, List.setIfInBounds_toArray, List.set_cons_zero, List.set_cons_succ]
      refine wpAnyU_take (i := 8) (v := ?vu7) rfl (by kernel_rfl) (by kernel_rfl) (by kernel_rfl) (by kernel_rfl) (by kernel_rfl) (fun _ _ _ h => h) (Or.inl ⟨by rfl, ?hu7⟩) (by assumption) ?ru7
      case hu7 => (intro w9 hSw; (try dsimp only at hSw); go_simp; (try with_reducible rfl))
      simp only [Act.put, List.setIfInBounds_toArray, List.set_cons_zero, List.set_cons_succ]
      refine wpAnyU_next (i := 9) (by kernel_rfl) rfl (fun K hK => ?_)
      go_simp
      refine hK.out _ _ ?_ (fun hT => ?_)
      clear hK K
      try simp only [Act.put, List.setIfInBounds_toArray, List.set_cons_zero, List.set_cons_succ]
      · exact Nat.zero_le _
      refine wpAnyU_tail 10 (by kernel_rfl) ?_
      simp only [List.drop_succ_cons, List.drop_zero]
      go_wp2
      go_meet
      exact ⟨rfl, rfl, (Chg.of_pur ((Pur.refl w2).drew)).trans c4, hc4⟩
    case rest =>
      obtain ⟨rfl, rfl, hC, hcell⟩ := hcut
      have hP : Pur w wc := ((Chg.of_pur hP0).trans hC).to_pur (fun k hk => by simp only [List.mem_singleton] at hk; omega)
      have hsz : q < wc.heap.size := Nat.lt_of_lt_of_le (bk_lt Q2) hC.size
      have H : Ds B q (cc :: R) w wc v [] := by
        refine ⟨own_pur hown hP, fun e => ?_, hsz, fun j c hj => hcell j c ?_, hBw, hP.size, fun g hg => (hv g hg).1, Below.mono hP hBw⟩
        · have := (hv _ e).2; omega
        · have h7 := cutz_take (decDigits D.1)
          rw [← hTf] at hj
          unfold dgT at hj
          rw [h7, List.getElem?_take] at hj
          split at hj
          · exact hj
          · cases hj
      have EF := efg_any cc R ((nDigits D.1 : Int) + D.2) H (by omega) (by omega)
      rw [hTf, List.length_cons]
      obtain ⟨N, hN⟩ : ∃ N, R.length + 1 = N := ⟨_, rfl⟩
      obtain ⟨n, hn⟩ : ∃ n, R.length = n := ⟨_, rfl⟩
      rw [hN, hn] at EF
      rw [hN]
      have wn : IntKind.i64.wrap ((N : Int) - 1) = (n : Int) := by rw [show (N : Int) - 1 = (n : Int) by omega]; exact IntWalk.i64_in _ (by omega)
      have mx : max (n : Int) 0 = (n : Int) := by omega
      clear H hC hcell hsz hP hq Q2 hN hn hTf hV hB hpos hT htab hDs
      go_wp2_with fail
      refine EF.mono ?_
      rintro e w5 ⟨v', rfl, D5⟩
      go_wp2
      go_ret
      rw [hfo.out]
      exact ⟨v', rfl, D5.own, D5.pur⟩
end Ft
end Go.Proofs.YtapgibcdbggpkaaGreatDoor
