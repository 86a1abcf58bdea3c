/- What readFloat, special and the exact way say, a sign ahead or not. The library's reading by scaling, a sign ahead. The library's reading of a decimal number, a sign ahead or not: it ends, and says one and the same. -/
import Derived.Test.YtapgibcdbggpkaaGreatDoorUsY
import Derived.Test.YtapgibcdbggpkaaGreatDoorIeX
import Derived.Test.YtapgibcdbggpkaaGreatDoorUsA
namespace Go.Proofs.YtapgibcdbggpkaaGreatDoor
open Go Go.RowKit
set_option linter.all false
namespace Us
/-- what readFloat says of a decimal number, a sign ahead or not -/
def RDg (l : List UInt8) (m : Nat) (p : Int) (ng tr : Bool) : Prop :=
  ∀ w, Calls Tryz.prog 159 #[.string ⟨l.toArray⟩] w fun e w' => e = .returned (.tuple #[.int .u64 (m : Int), .int .i64 p, .bool ng, .bool tr, .bool false, .int .i64 (l.length : Int), .bool true]) ∧ w = w'
/-- no special number -/
def SPP (l : List UInt8) : Prop := ∀ w, Calls Tryz.prog 158 #[.string ⟨l.toArray⟩] w fun e w' => e = .returned (.tuple #[.float .f64 0, .int .i64 0, .bool false]) ∧ w = w'
def ExactS (ng : Bool) (T : Nat → Nat) (m : Nat) (e : Int) (x : Nat) (ok : Bool) : Prop :=
  ∀ w, FT T w → Rf.F64 w → Calls Tryz.prog 169 #[.int .u64 (m : Int), .int .i64 e, .bool ng] w fun e' w' => e' = .returned (.tuple #[.float .f64 x, .bool ok]) ∧ w = w'
theorem neg_ok (m : Nat) : (Ieee.double.read (Op.negFloat .f64 (floatOfInt .f64 (m : Int)))).isNaN = false := by
  have key : ∃ r, r ≤ Ieee.double.infRung ∧ floatOfInt .f64 (m : Int) = Ieee.double.word false r := by
    have e : floatOfInt .f64 (m : Int) = Ieee.double.nearest false m 0 := by
      show Ieee.double.write (.number (decide ((m : Int) < 0)) (m : Int).natAbs 0) = _
      rw [decide_eq_false (show ¬(m : Int) < 0 by omega), Int.natAbs_natCast]
      rfl
    rw [e]
    unfold Ieee.Format.nearest
    split
    · exact ⟨0, Nat.zero_le _, rfl⟩
    · exact ⟨_, Nat.min_le_right _ _, rfl⟩
  obtain ⟨r, hr, e⟩ := key
  have hi : Ieee.double.infRung = 9218868437227405312 := rfl
  rw [e, Ie.neg_word false (by omega)]
  exact Fl.read_word true r hr
set_option maxRecDepth 100000 in
set_option maxHeartbeats 8000000 in
theorem exact_negs (T : Nat → Nat) (hF : ∀ k, k < 23 → Fl.Fin (T k)) (m : Nat) (e : Int) (he : -100000 ≤ e) (he2 : e ≤ 100000) : ∃ x ok, ExactS true T m e x ok ∧ (Ieee.double.read x).isNaN = false := by
  have h0 := neg_ok m
  obtain ⟨y0, hy0⟩ : ∃ y0, floatOfInt .f64 (m : Int) = y0 := ⟨_, rfl⟩
  rw [hy0] at h0
  have nf : ∀ w : World, (Op.unary .neg (.float .f64 y0)).run Tryz.prog w = .ok (.float .f64 (Op.negFloat .f64 y0)) w := fun w => rfl
  obtain ⟨x0, hx0⟩ : ∃ x0, Op.negFloat .f64 y0 = x0 := ⟨_, rfl⟩
  rw [hx0] at h0 nf
  clear hx0
  by_cases hm : m / 4503599627370496 = 0
  · have d1 : ((m : Int) / 4503599627370496 != 0) = false := by rw [bne_eq_false_iff_eq]; omega
    by_cases z : e = 0
    · subst z
      refine ⟨x0, true, fun w hT hF0 => ?_, h0⟩
      have c0 := hF0.c0
      clear hF h0 he he2 hm
      go_enter Tryz.func169, Tryz.ntmps169
      go_wp2
      go_ret2
      exact ⟨rfl, rfl⟩
    · skip
      by_cases ng : e < 0
      · by_cases lo : -22 ≤ e
        · obtain ⟨k, hk1⟩ := Int.eq_ofNat_of_zero_le (show 0 ≤ -e by omega)
          have k23 : k < 23 := by omega
          obtain ⟨r, hr, hrn⟩ := Fl.div_some (x := x0) (y := T k) h0 (hF k k23)
          have QU := fun w => run_float_arith (P := Tryz.prog) w .quo 23 .f64 x0 (T k) r hr
          have wk : IntKind.i64.wrap (-e) = (k : Int) := by rw [hk1]; exact IntWalk.i64_in _ (by omega)
          have kl : (k : Int) < 23 := by omega
          have k0 : (0 : Int) ≤ (k : Int) := by omega
          refine ⟨r, true, fun w hT hF0 => ?_, hrn⟩
          have c0 := hF0.c0
          obtain ⟨g, o, c, hg, hk⟩ := hT.sl
          have ck := hk k k23
          have e0 : (e == 0) = false := by rw [beq_eq_false_iff_ne]; exact z
          have lo' : (-22 : Int) ≤ e := lo
          clear hF h0 he he2 hm hk hT hF0 hk1 k23 hr
          go_enter Tryz.func169, Tryz.ntmps169
          go_wp2
          go_ret2
          exact ⟨rfl, rfl⟩
        · refine ⟨x0, false, fun w hT hF0 => ?_, h0⟩
          have c0 := hF0.c0
          have e0 : (e == 0) = false := by rw [beq_eq_false_iff_ne]; exact z
          clear hF h0 he he2 hm hT hF0
          go_enter Tryz.func169, Tryz.ntmps169
          go_wp2
          go_ret2
          exact ⟨rfl, rfl⟩
      · obtain ⟨k, rfl⟩ := Int.eq_ofNat_of_zero_le (show 0 ≤ e by omega)
        have e0 : (((k : Nat) : Int) == 0) = false := by rw [beq_eq_false_iff_ne]; exact z
        have k0 : (0 : Int) < (k : Int) := by omega
        have k00 : (0 : Int) ≤ (k : Int) := by omega
        by_cases k22 : k ≤ 22
        · have kl : (k : Int) < 23 := by omega
          have kn : decide ((22 : Int) < (k : Int)) = false := by rw [decide_eq_false_iff_not]; omega
          have kn2 : decide ((k : Int) ≤ 37) = true := by rw [decide_eq_true_eq]; omega
          have key : ∃ x ok, ExactS true T m (k : Int) x ok ∧ (Ieee.double.read x).isNaN = false := by
            obtain ⟨r, hr, hrn⟩ := Fl.mul_some (x := x0) (y := T k) h0 (hF k (by omega))
            have MU := fun w => run_float_arith (P := Tryz.prog) w .mul 23 .f64 x0 (T k) r hr
            rcases g1 : (FloatKind.f64.format.order x0 4831355200913801216 == some Ordering.gt) with _ | _
            · rcases g2 : (FloatKind.f64.format.order x0 14054727237768577024 == some Ordering.lt) with _ | _
              · refine ⟨r, true, fun w hT hF0 => ?_, hrn⟩
                have c0 := hF0.c0
                obtain ⟨g, o, c, hg, hk⟩ := hT.sl
                have ck := hk k (by omega)
                clear hF h0 he he2 hm hk hT hF0 hr hrn k22 z ng
                go_enter Tryz.func169, Tryz.ntmps169
                go_wp2
                go_ret2
                exact ⟨rfl, rfl⟩
              · refine ⟨x0, false, fun w hT hF0 => ?_, h0⟩
                have c0 := hF0.c0
                obtain ⟨g, o, c, hg, hk⟩ := hT.sl
                have ck := hk k (by omega)
                clear hF h0 he he2 hm hk hT hF0 hr hrn k22 z ng
                go_enter Tryz.func169, Tryz.ntmps169
                go_wp2
                go_ret2
                exact ⟨rfl, rfl⟩
            · refine ⟨x0, false, fun w hT hF0 => ?_, h0⟩
              have c0 := hF0.c0
              obtain ⟨g, o, c, hg, hk⟩ := hT.sl
              have ck := hk k (by omega)
              clear hF h0 he he2 hm hk hT hF0 hr hrn k22 z ng
              go_enter Tryz.func169, Tryz.ntmps169
              go_wp2
              go_ret2
              exact ⟨rfl, rfl⟩
          exact key
        · by_cases k37 : k ≤ 37
          · obtain ⟨j, hj⟩ : ∃ j, k = j + 22 := ⟨k - 22, by omega⟩
            obtain ⟨x1, hx1, h1⟩ := Fl.mul_some (x := x0) (y := T j) h0 (hF j (by omega))
            have M1 := fun w => run_float_arith (P := Tryz.prog) w .mul 23 .f64 x0 (T j) x1 hx1
            have wj : IntKind.i64.wrap ((k : Int) - 22) = (j : Int) := by rw [show (k : Int) - 22 = (j : Int) by omega]; exact IntWalk.i64_in _ (by omega)
            have jl : (j : Int) < 23 := by omega
            have j0 : (0 : Int) ≤ (j : Int) := by omega
            have kn : decide ((22 : Int) < (k : Int)) = true := by rw [decide_eq_true_eq]; omega
            have kn2 : decide ((k : Int) ≤ 37) = true := by rw [decide_eq_true_eq]; omega
            have key : ∃ x ok, ExactS true T m (k : Int) x ok ∧ (Ieee.double.read x).isNaN = false := by
              obtain ⟨r, hr, hrn⟩ := Fl.mul_some (x := x1) (y := T 22) h1 (hF 22 (by omega))
              have MU := fun w => run_float_arith (P := Tryz.prog) w .mul 23 .f64 x1 (T 22) r hr
              rcases g1 : (FloatKind.f64.format.order x1 4831355200913801216 == some Ordering.gt) with _ | _
              · rcases g2 : (FloatKind.f64.format.order x1 14054727237768577024 == some Ordering.lt) with _ | _
                · refine ⟨r, true, fun w hT hF0 => ?_, hrn⟩
                  have c0 := hF0.c0
                  obtain ⟨g, o, c, hg, hk⟩ := hT.sl
                  have ck := hk 22 (by omega)
                  have cj := hk j (by omega)
                  clear hF h0 he he2 hm hk hT hF0 hr hrn k22 z ng hj k37 h1 hx1
                  go_enter Tryz.func169, Tryz.ntmps169
                  go_wp2
                  go_ret2
                  exact ⟨rfl, rfl⟩
                · refine ⟨x1, false, fun w hT hF0 => ?_, h1⟩
                  have c0 := hF0.c0
                  obtain ⟨g, o, c, hg, hk⟩ := hT.sl
                  have ck := hk 22 (by omega)
                  have cj := hk j (by omega)
                  clear hF h0 he he2 hm hk hT hF0 hr hrn k22 z ng hj k37 h1 hx1
                  go_enter Tryz.func169, Tryz.ntmps169
                  go_wp2
                  go_ret2
                  exact ⟨rfl, rfl⟩
              · refine ⟨x1, false, fun w hT hF0 => ?_, h1⟩
                have c0 := hF0.c0
                obtain ⟨g, o, c, hg, hk⟩ := hT.sl
                have ck := hk 22 (by omega)
                have cj := hk j (by omega)
                clear hF h0 he he2 hm hk hT hF0 hr hrn k22 z ng hj k37 h1 hx1
                go_enter Tryz.func169, Tryz.ntmps169
                go_wp2
                go_ret2
                exact ⟨rfl, rfl⟩
            exact key
          · refine ⟨x0, false, fun w hT hF0 => ?_, h0⟩
            have c0 := hF0.c0
            have kn2 : decide ((k : Int) ≤ 37) = false := by rw [decide_eq_false_iff_not]; omega
            clear hF h0 he he2 hm hT hF0 ng z
            go_enter Tryz.func169, Tryz.ntmps169
            go_wp2
            go_ret2
            exact ⟨rfl, rfl⟩
  · have d1 : ((m : Int) / 4503599627370496 != 0) = true := by rw [bne_iff_ne]; omega
    refine ⟨0, false, fun w hT hF0 => ?_, by decide⟩
    have c0 := hF0.c0
    clear hF h0 he he2 hm
    go_enter Tryz.func169, Tryz.ntmps169
    go_wp2
    go_ret2
    exact ⟨rfl, rfl⟩
end Us
end Go.Proofs.YtapgibcdbggpkaaGreatDoor
namespace Go.Proofs.YtapgibcdbggpkaaGreatDoor
open Go Go.RowKit
set_option linter.all false
namespace Us
def rdN (Hi Lo : Nat → Nat) (d : Nat) (p : Int) : Nat × Bool :=
  if 64 ≤ scl d p then (9223372036854775808, false)
  else pk (9223372036854775808 + rnd (half (unr Hi Lo d p))) (-(expo d p - (b2 (decide (36028797018963966 ≤ unr Hi Lo d p)) : Int)))
set_option maxRecDepth 100000 in
set_option maxHeartbeats 16000000 in
theorem parse_neg {Hi Lo : Nat → Nat} {w : World} (d : Nat) (p : Int) (hT : PT Hi Lo w) (hg : 15 < w.heap.size) (hd0 : 0 < d) (hd : d < 18446744073709551616) (hp0 : -345 ≤ p) (hp1 : p ≤ 310) :
    Calls Tryz.prog 170 #[.int .u64 (d : Int), .int .i64 p, .int .u64 9223372036854775808] w fun e w' => e = .returned (.tuple #[.float .f64 (rdN Hi Lo d p).1, errV (rdN Hi Lo d p).2]) ∧ Pur w w' := by
  have h6 := @run_callFunc_extern Tryz.prog 168 _ Go.Extern.MathFloatBits.float64frombits Tryz.func168 (by kernel_rfl) (by kernel_rfl) (by kernel_rfl) (by kernel_rfl)
  have fb : ∀ (n : Int) (w : World), (Go.Extern.MathFloatBits.float64frombits #[.int .u64 n]).run Tryz.prog w = .ok (.float .f64 n.toNat) w := fun n w => rfl
  have BL := Tryz.bits_Len64 (d : Int) w (by omega) (by omega)
  rw [Int.toNat_natCast] at BL
  have LG := log2_any p w (by omega) (by omega)
  have hlg : -1147 ≤ lg p ∧ lg p ≤ 1030 := by unfold lg; omega
  have hbl : 1 ≤ Lib.bitLen d ∧ Lib.bitLen d ≤ 64 ∧ d * 2 ^ (64 - Lib.bitLen d) < 18446744073709551616 := by
    obtain ⟨h1, h2, h3⟩ := Lib.bitLenAux_bounds 64 d hd (by omega)
    have hle : Lib.bitLen d ≤ 64 := by
      rcases Nat.lt_or_ge 64 (Lib.bitLen d) with h | h
      · have : 2 ^ 64 ≤ 2 ^ (Lib.bitLen d - 1) := Nat.pow_le_pow_right (by decide) (by omega)
        have h2' : 2 ^ (Lib.bitLen d - 1) ≤ d := h2
        omega
      · exact h
    refine ⟨h1, hle, ?_⟩
    have h3' : d < 2 ^ Lib.bitLen d := h3
    have h4 : d * 2 ^ (64 - Lib.bitLen d) < 2 ^ Lib.bitLen d * 2 ^ (64 - Lib.bitLen d) := Nat.mul_lt_mul_of_pos_right h3' (Nat.pow_pos (by decide))
    rw [← Nat.pow_add, Nat.add_sub_cancel' hle] at h4
    exact h4
  obtain ⟨bl, hb⟩ : ∃ bl, Lib.bitLen d = bl := ⟨_, rfl⟩
  obtain ⟨g, hgg⟩ : ∃ g, lg p = g := ⟨_, rfl⟩
  obtain ⟨E, hE⟩ : ∃ E, expo d p = E := ⟨_, rfl⟩
  have hE1 : E = min 1074 (53 - (bl : Int) - g) := by rw [← hE]; unfold expo; rw [hb, hgg]
  rw [hb] at BL hbl
  rw [hgg] at LG hlg
  go_enter Tryz.func170, Tryz.ntmps170
  go_wp2_with fail
  refine BL.mono ?_
  rintro e w1 ⟨rfl, rfl⟩
  go_wp2_with fail
  refine LG.mono ?_
  rintro e w1 ⟨rfl, rfl⟩
  obtain ⟨k, hk⟩ := Int.eq_ofNat_of_zero_le (show 0 ≤ p + 348 by omega)
  obtain ⟨S, hS⟩ : ∃ S, scl d p = S := ⟨_, rfl⟩
  have hS1 : S = -(min 1074 (53 - (bl : Int) - g) - (64 - (bl : Int)) + g + 3) := by rw [← hS]; unfold scl; rw [hb, hgg, hE, hE1]
  have hS2 : 8 ≤ S := by omega
  have PS := prescale_any (w := w1.alloc (.cells #[.int .u64 0, .int .u64 0, .int .i64 0] 239)) (q := w1.heap.size) (k := k) (a := 0) (b := 0) (s := 0) (e := min 1074 (53 - (bl : Int) - g) - (64 - (bl : Int))) (p := p) (lp := g) (hT.pur ((Pur.refl _).alloc _)) (bk_new _ _) (Nat.ne_of_lt hg) hk (by omega) (by omega) (by omega)
  rw [← hS1] at PS
  have hRD := Lib.hid (show rdN Hi Lo d p = if 64 ≤ S then (9223372036854775808, false) else pk (9223372036854775808 + rnd (half (usc (d * 2 ^ (64 - bl)) (Hi k) (Lo k) S.toNat))) (-(min 1074 (53 - (bl : Int) - g) - (b2 (decide (36028797018963966 ≤ usc (d * 2 ^ (64 - bl)) (Hi k) (Lo k) S.toNat)) : Int))) by
    unfold rdN unr; rw [hS, hE, hb, hk, hE1]; rfl)
  have hHi := (hT.hi k (by omega)).2
  have hLo := (hT.lo k (by omega)).2
  have hEb : -1074 ≤ -(min 1074 (53 - (bl : Int) - g)) ∧ -(min 1074 (53 - (bl : Int) - g)) ≤ 3000 := by omega
  clear hS hE hb hgg hk hT
  go_wp2_with fail
  refine PS.mono ?_
  rintro e w2 ⟨rfl, s2, g2⟩
  have z2 := bk_cell s2 2 _ rfl
  have P2 : Pur w1 w2 := ((Chg.of_pur ((Pur.refl w1).alloc _)).trans g2).to_pur (fun b hb => by simp at hb; omega)
  by_cases h64 : 64 ≤ S
  · have HV := Lib.hid (show rdN Hi Lo d p = (9223372036854775808, false) by rw [hRD.out, if_pos h64])
    have b0 : bits .or .u64 9223372036854775808 0 = 9223372036854775808 := by decide
    clear hRD PS
    go_wp2
    go_ret2
    rw [HV.out]
    exact ⟨rfl, P2⟩
  · have h64' : ¬ (64 : Int) ≤ S := h64
    obtain ⟨X, hX⟩ : ∃ X, d * 2 ^ (64 - bl) = X := ⟨_, rfl⟩
    rw [hX] at hRD hbl
    have hXl := hbl.2.2
    have bb1 := hbl.1
    have bb2 := hbl.2.1
    have wx : IntKind.u64.wrap ((d : Int) * 2 ^ (64 - bl)) = (X : Int) := by
      rw [show (d : Int) * 2 ^ (64 - bl) = (X : Int) by rw [← hX, Int.natCast_mul, Int.natCast_pow]; rfl]
      exact IntWalk.u64_in _ (by omega)
    have hand : bits .and .i64 S 63 = (S.toNat : Int) := by
      have := bits_mask .i64 63 (by decide) wraps_i64 6 (by decide) S (by omega) (by omega)
      rw [show ((2 : Int) ^ 6 - 1) = 63 from rfl] at this
      rw [this]; omega
    have US := uscale_any (x := X) s2 hXl hHi hLo hand (by omega)
    have hUl := usc_lt X (Hi k) (Lo k) S.toNat hXl hHi hLo
    have HV := Lib.hid (hRD.out.trans (if_neg h64))
    have UM : ∀ w, Calls Tryz.prog 185 #[.int .u64 9007199254740992] w fun e w' => e = .returned (.int .u64 36028797018963966) ∧ w = w' := fun w => unmin_any 9007199254740992 w (by decide) (by decide)
    have hEb2 : -100000 ≤ min 1074 (53 - (bl : Int) - g) ∧ min 1074 (53 - (bl : Int) - g) ≤ 1074 := by omega
    generalize usc X (Hi k) (Lo k) S.toNat = U at *
    generalize min 1074 (53 - (bl : Int) - g) = E at *
    have BI := fun b w => bool2i_any b w
    have hE0 : -1075 ≤ -E := by omega
    clear PS hRD hX hXl hbl hand hHi hLo hS1 hE1 h64
    rcases hc : decide (36028797018963966 ≤ U) with _ | _
    · have hc' : decide ((36028797018963966 : Int) ≤ (U : Int)) = false := by rw [← hc, decide_eq_decide]; omega
      have hh : half U = U ||| U % 2 := by unfold half; rw [if_neg (by simpa using hc)]
      rw [hc, hh] at HV
      have b1 : bits .and .u64 (U : Int) 1 = ((U % 2 : Nat) : Int) := by
        have := u64_and_nat U 1 hUl (by decide)
        rw [show ((1 : Nat) : Int) = 1 from rfl] at this
        rw [this, show U &&& 1 = U % 2 from Nat.and_two_pow_sub_one_eq_mod U 1]
      have hal : U % 2 ≤ 1 := by omega
      have b3 : bits .or .u64 (U : Int) ((U % 2 : Nat) : Int) = ((U ||| U % 2 : Nat) : Int) := u64_or_nat U (U % 2) hUl (by omega)
      have em : ((U % 2 : Nat) : Int) = (U : Int) % 2 := by omega
      rw [em] at b1 b3
      clear em
      have hol : (U ||| U % 2) < 18446744073709551616 := Nat.or_lt_two_pow (n := 64) hUl (by omega)
      have RN := fun w => round_any (U ||| U % 2) w hol
      have hrl := rnd_lt (U ||| U % 2)
      clear hUl hh hc hol hal
      generalize rnd (U ||| U % 2) = R at *
      obtain ⟨R2, hR2⟩ : ∃ R2, 9223372036854775808 + R = R2 := ⟨_, rfl⟩
      have b4 : bits .or .u64 9223372036854775808 (R : Int) = (R2 : Int) := by
        rw [← hR2]
        have := u64_or_nat 9223372036854775808 R (by decide) (by omega)
        rw [show ((9223372036854775808 : Nat) : Int) = 9223372036854775808 from rfl] at this
        rw [this]
        congr 1
        exact (Nat.two_pow_add_eq_or_of_lt (i := 63) (b := R) (by omega) 1).symm
      have PK := fun w => pack_any R2 (-E) w (by omega) hE0 (by omega)
      have HV2 := Lib.hid (show rdN Hi Lo d p = pk R2 (-E) by rw [HV.out, ← hR2]; simp [b2])
      clear HV hrl hR2
      go_wp2_with fail
      refine US.mono ?_
      rintro e w3 ⟨rfl, p3⟩
      go_wp2_with fail
      with_reducible refine (UM _).mono ?_
      rintro e w4 ⟨rfl, rfl⟩
      have BF : ∀ w, Calls Tryz.prog 135 #[.bool false] w fun e w' => e = .returned (.int .i64 0) ∧ w = w' := fun w => BI false w
      go_wp2_with fail
      with_reducible refine (BF _).mono ?_
      rintro e w5 ⟨rfl, rfl⟩
      go_wp2_with fail
      with_reducible refine (RN _).mono ?_
      rintro e w6 ⟨rfl, rfl⟩
      go_wp2_with fail
      with_reducible refine (PK _).mono ?_
      rintro e w7 ⟨rfl, rfl⟩
      go_wp2
      go_ret2
      rw [HV2.out]
      exact ⟨rfl, P2.trans p3⟩
    · have hc' : decide ((36028797018963966 : Int) ≤ (U : Int)) = true := by rw [← hc, decide_eq_decide]; omega
      have hh : half U = U / 2 ||| U % 2 := by unfold half; rw [if_pos (by simpa using hc)]
      rw [hc, hh] at HV
      have b1 : bits .and .u64 (U : Int) 1 = ((U % 2 : Nat) : Int) := by
        have := u64_and_nat U 1 hUl (by decide)
        rw [show ((1 : Nat) : Int) = 1 from rfl] at this
        rw [this, show U &&& 1 = U % 2 from Nat.and_two_pow_sub_one_eq_mod U 1]
      have hal : U % 2 ≤ 1 := by omega
      have hdl : U / 2 < 18446744073709551616 := by omega
      have b3 : bits .or .u64 ((U : Int) / 2) ((U % 2 : Nat) : Int) = ((U / 2 ||| U % 2 : Nat) : Int) := u64_or_nat (U / 2) (U % 2) hdl (by omega)
      have em : ((U % 2 : Nat) : Int) = (U : Int) % 2 := by omega
      rw [em] at b1 b3
      clear em
      have hol : (U / 2 ||| U % 2) < 18446744073709551616 := Nat.or_lt_two_pow (n := 64) hdl (by omega)
      have RN := fun w => round_any (U / 2 ||| U % 2) w hol
      have hrl := rnd_lt (U / 2 ||| U % 2)
      clear hUl hh hc hol hal hdl
      generalize rnd (U / 2 ||| U % 2) = R at *
      obtain ⟨R2, hR2⟩ : ∃ R2, 9223372036854775808 + R = R2 := ⟨_, rfl⟩
      have b4 : bits .or .u64 9223372036854775808 (R : Int) = (R2 : Int) := by
        rw [← hR2]
        have := u64_or_nat 9223372036854775808 R (by decide) (by omega)
        rw [show ((9223372036854775808 : Nat) : Int) = 9223372036854775808 from rfl] at this
        rw [this]
        congr 1
        exact (Nat.two_pow_add_eq_or_of_lt (i := 63) (b := R) (by omega) 1).symm
      have w9 : IntKind.i64.wrap (-(E - 1)) = -(E - 1) := IntWalk.i64_in _ (by omega)
      have PK := fun w => pack_any R2 (-(E - 1)) w (by omega) (by omega) (by omega)
      have HV2 := Lib.hid (show rdN Hi Lo d p = pk R2 (-(E - 1)) by rw [HV.out, ← hR2]; simp [b2])
      clear HV hrl hR2
      go_wp2_with fail
      refine US.mono ?_
      rintro e w3 ⟨rfl, p3⟩
      go_wp2_with fail
      with_reducible refine (UM _).mono ?_
      rintro e w4 ⟨rfl, rfl⟩
      have BT : ∀ w, Calls Tryz.prog 135 #[.bool true] w fun e w' => e = .returned (.int .i64 1) ∧ w = w' := fun w => BI true w
      go_wp2_with fail
      with_reducible refine (BT _).mono ?_
      rintro e w5 ⟨rfl, rfl⟩
      go_wp2_with fail
      with_reducible refine (RN _).mono ?_
      rintro e w6 ⟨rfl, rfl⟩
      go_wp2_with fail
      with_reducible refine (PK _).mono ?_
      rintro e w7 ⟨rfl, rfl⟩
      go_wp2
      go_ret2
      rw [HV2.out]
      exact ⟨rfl, P2.trans p3⟩
end Us
end Go.Proofs.YtapgibcdbggpkaaGreatDoor
namespace Go.Proofs.YtapgibcdbggpkaaGreatDoor
open Go Go.RowKit
set_option linter.all false
namespace Us
/-- the answer by scaling, with its sign -/
def rdS (ng : Bool) (Hi Lo : Nat → Nat) (m : Nat) (p : Int) : Nat × Bool := if ng = true then rdN Hi Lo m p else rd Hi Lo m p
theorem parse_sign {Hi Lo : Nat → Nat} {w : World} (ng : Bool) (d : Nat) (p : Int) (hT : PT Hi Lo w) (hg : 15 < w.heap.size) (hd0 : 0 < d) (hd : d < 18446744073709551616) (hp0 : -345 ≤ p) (hp1 : p ≤ 310) :
    Calls Tryz.prog 170 #[.int .u64 (d : Int), .int .i64 p, .int .u64 ((Dc.sg ng : Nat) : Int)] w fun e w' => e = .returned (.tuple #[.float .f64 (rdS ng Hi Lo d p).1, errV (rdS ng Hi Lo d p).2]) ∧ Pur w w' := by
  cases ng
  · exact parse_any d p hT hg hd0 hd hp0 hp1
  · exact parse_neg d p hT hg hd0 hd hp0 hp1
theorem exact_sign (ng : Bool) (T : Nat → Nat) (hF : ∀ k, k < 23 → Fl.Fin (T k)) (m : Nat) (e : Int) (he : -100000 ≤ e) (he2 : e ≤ 100000) : ∃ x ok, ExactS ng T m e x ok := by
  cases ng
  · obtain ⟨x, ok, h, -⟩ := exact_any T hF m e he he2
    exact ⟨x, ok, h⟩
  · obtain ⟨x, ok, h, -⟩ := exact_negs T hF m e he he2
    exact ⟨x, ok, h⟩
theorem sign_up (ng : Bool) (w : World) : Calls Tryz.prog 167 #[.bool ng] w fun e w' => e = .returned (.int .u64 (b2 ng : Int)) ∧ w = w' := bool2_any ng w
set_option maxRecDepth 100000 in
set_option maxHeartbeats 16000000 in
theorem edge_g (Hi Lo T : Nat → Nat) {l : List UInt8} {m : Nat} {p : Int} {ng tr : Bool} (hR : RDg l m p ng tr) (SP : SPP l) (hm : m < 18446744073709551616) (hp : -2000000 ≤ p) (hp2 : p ≤ 2000000) (hl : l.length ≤ 1000000) (he : m = 0 ∨ 310 < p ∨ p < -345) :
    ∃ x b, AD Hi Lo T l x b := by
  have h6 := @run_callFunc_extern Tryz.prog 168 _ Go.Extern.MathFloatBits.float64frombits Tryz.func168 (by kernel_rfl) (by kernel_rfl) (by kernel_rfl) (by kernel_rfl)
  have fb : ∀ (n : Int) (w : World), (Go.Extern.MathFloatBits.float64frombits #[.int .u64 n]).run Tryz.prog w = .ok (.float .f64 n.toNat) w := fun n w => rfl
  have BF := fun w => sign_up ng w
  unfold SPP at SP
  unfold RDg at hR
  have c0 : bits .or .u64 0 0 = 0 := by decide
  have c1 : bits .or .u64 0 9218868437227405312 = 9218868437227405312 := by decide
  have c2 : bits .or .u64 9223372036854775808 9218868437227405312 = 18442240474082181120 := by decide
  have c3 : bits .or .u64 9223372036854775808 0 = 9223372036854775808 := by decide
  by_cases z : m = 0
  · have d1 : ((m : Int) == 0) = true := by rw [beq_iff_eq]; omega
    refine ⟨Dc.sg ng, false, fun w hW => ?_⟩
    have co := hW.op
    clear hW z hm he
    cases ng
    all_goals
      simp only [show ((b2 false : Nat) : Int) = 0 from rfl, show ((b2 true : Nat) : Int) = 1 from rfl] at BF
      go_enter Tryz.func130, Tryz.ntmps130
      go_wp2_with fail
      refine (SP _).mono ?_
      rintro e w1 ⟨rfl, rfl⟩
      go_wp2_with fail
      refine (hR _).mono ?_
      rintro e w1 ⟨rfl, rfl⟩
      go_wp2_with fail
      refine (BF _).mono ?_
      rintro e w1 ⟨rfl, rfl⟩
      go_wp2
      go_ret3
      exact ⟨rfl, Pur.refl _⟩
  have d1 : ((m : Int) == 0) = false := by rw [beq_eq_false_iff_ne]; omega
  by_cases g1 : 310 < p
  · have d2 : decide ((310 : Int) < p) = true := by rw [decide_eq_true_eq]; exact g1
    refine ⟨Dc.sg ng + 9218868437227405312, true, fun w hW => ?_⟩
    have co := hW.op
    clear hW z hm he
    cases ng
    all_goals
      simp only [show ((b2 false : Nat) : Int) = 0 from rfl, show ((b2 true : Nat) : Int) = 1 from rfl] at BF
      go_enter Tryz.func130, Tryz.ntmps130
      go_wp2_with fail
      refine (SP _).mono ?_
      rintro e w1 ⟨rfl, rfl⟩
      go_wp2_with fail
      refine (hR _).mono ?_
      rintro e w1 ⟨rfl, rfl⟩
      go_wp2_with fail
      refine (BF _).mono ?_
      rintro e w1 ⟨rfl, rfl⟩
      go_wp2
      go_ret3
      exact ⟨rfl, Pur.refl _⟩
  have d2 : decide ((310 : Int) < p) = false := by rw [decide_eq_false_iff_not]; exact g1
  have g2 : p < -345 := by omega
  have d3 : decide (p < -345) = true := by rw [decide_eq_true_eq]; exact g2
  refine ⟨Dc.sg ng, false, fun w hW => ?_⟩
  have co := hW.op
  clear hW z hm he
  cases ng
  all_goals
    simp only [show ((b2 false : Nat) : Int) = 0 from rfl, show ((b2 true : Nat) : Int) = 1 from rfl] at BF
    go_enter Tryz.func130, Tryz.ntmps130
    go_wp2_with fail
    refine (SP _).mono ?_
    rintro e w1 ⟨rfl, rfl⟩
    go_wp2_with fail
    refine (hR _).mono ?_
    rintro e w1 ⟨rfl, rfl⟩
    go_wp2_with fail
    refine (BF _).mono ?_
    rintro e w1 ⟨rfl, rfl⟩
    go_wp2
    go_ret3
    exact ⟨rfl, Pur.refl _⟩
set_option maxRecDepth 100000 in
set_option maxHeartbeats 16000000 in
theorem fits_g (Hi Lo : Nat → Nat) {T : Nat → Nat} (hF : ∀ k, k < 23 → Fl.Fin (T k)) {l : List UInt8} {m : Nat} {p : Int} {ng : Bool} (hR : RDg l m p ng false) (SP : SPP l) (h0m : 0 < m) (hm : m < 18446744073709551616) (hp : -345 ≤ p) (hp2 : p ≤ 310) (hl : l.length ≤ 1000000) :
    ∃ x b, AD Hi Lo T l x b := by
  have h6 := @run_callFunc_extern Tryz.prog 168 _ Go.Extern.MathFloatBits.float64frombits Tryz.func168 (by kernel_rfl) (by kernel_rfl) (by kernel_rfl) (by kernel_rfl)
  have fb : ∀ (n : Int) (w : World), (Go.Extern.MathFloatBits.float64frombits #[.int .u64 n]).run Tryz.prog w = .ok (.float .f64 n.toNat) w := fun n w => rfl
  have BF := fun w => sign_up ng w
  unfold SPP at SP
  unfold RDg at hR
  have sx : IntKind.u64.wrap ((b2 ng : Int) * 9223372036854775808) = ((Dc.sg ng : Nat) : Int) := by cases ng <;> rfl
  have d1 : ((m : Int) == 0) = false := by rw [beq_eq_false_iff_ne]; omega
  have d2 : decide ((310 : Int) < p) = false := by rw [decide_eq_false_iff_not]; omega
  have d3 : decide (p < -345) = false := by rw [decide_eq_false_iff_not]; omega
  obtain ⟨x, ok, EX⟩ := exact_sign ng T hF m p (by omega) (by omega)
  obtain ⟨S, hS⟩ : ∃ S, Dc.sg ng = S := ⟨_, rfl⟩
  have PS := fun (w : World) (hW : FW Hi Lo T w) => parse_sign (w := w) ng m p hW.pt hW.lt (by omega) hm (by omega) (by omega)
  generalize rdS ng Hi Lo m p = q at *
  rw [hS] at sx PS
  generalize b2 ng = B at *
  clear hS
  rcases ok with _ | _
  · refine ⟨q.1, q.2, fun w hW => ?_⟩
    have co := hW.op
    have E1 := EX w hW.ft hW.f
    have P1 := PS w hW
    clear hF hW h0m hm EX PS
    go_enter Tryz.func130, Tryz.ntmps130
    go_wp2_with fail
    refine (SP _).mono ?_
    rintro e w1 ⟨rfl, rfl⟩
    go_wp2_with fail
    refine (hR _).mono ?_
    rintro e w1 ⟨rfl, rfl⟩
    go_wp2_with fail
    refine (BF _).mono ?_
    rintro e w1 ⟨rfl, rfl⟩
    go_wp2_with fail
    refine E1.mono ?_
    rintro e w1 ⟨rfl, rfl⟩
    go_wp2_with fail
    refine P1.mono ?_
    rintro e w1 ⟨rfl, p1⟩
    go_wp2
    go_ret3
    exact ⟨rfl, p1⟩
  · refine ⟨x, false, fun w hW => ?_⟩
    have co := hW.op
    have E1 := EX w hW.ft hW.f
    clear hF hW h0m hm EX PS
    go_enter Tryz.func130, Tryz.ntmps130
    go_wp2_with fail
    refine (SP _).mono ?_
    rintro e w1 ⟨rfl, rfl⟩
    go_wp2_with fail
    refine (hR _).mono ?_
    rintro e w1 ⟨rfl, rfl⟩
    go_wp2_with fail
    refine (BF _).mono ?_
    rintro e w1 ⟨rfl, rfl⟩
    go_wp2_with fail
    refine E1.mono ?_
    rintro e w1 ⟨rfl, rfl⟩
    go_wp2
    go_ret3
    exact ⟨rfl, Pur.refl _⟩
end Us
end Go.Proofs.YtapgibcdbggpkaaGreatDoor
