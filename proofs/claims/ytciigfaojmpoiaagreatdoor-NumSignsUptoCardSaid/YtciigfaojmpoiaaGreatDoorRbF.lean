/- The library's reading by scaling, a sign ahead. The reading by scaling is right, a sign ahead. atof64 gives the float that the number rounds to, a sign ahead. -/
import Derived.Test.YtciigfaojmpoiaaGreatDoorUsA
import Derived.Test.YtciigfaojmpoiaaGreatDoorRbE
namespace Go.Proofs.YtciigfaojmpoiaaGreatDoor
open Go Go.RowKit
set_option linter.all false
namespace Us
def rdN (Hi Lo : Nat → Nat) (d : Nat) (p : Int) : Nat × Bool :=
  if 64 ≤ scl d p then (9223372036854775808, false)
  else pk (9223372036854775808 + rnd (half (unr Hi Lo d p))) (-(expo d p - (b2 (decide (36028797018963966 ≤ unr Hi Lo d p)) : Int)))
set_option maxRecDepth 100000 in
set_option maxHeartbeats 16000000 in
theorem parse_neg {Hi Lo : Nat → Nat} {w : World} (d : Nat) (p : Int) (hT : PT Hi Lo w) (hg : 10 < w.heap.size) (hd0 : 0 < d) (hd : d < 18446744073709551616) (hp0 : -345 ≤ p) (hp1 : p ≤ 310) :
    Calls Tryz.prog 160 #[.int .u64 (d : Int), .int .i64 p, .int .u64 9223372036854775808] w fun e w' => e = .returned (.tuple #[.float .f64 (rdN Hi Lo d p).1, errV (rdN Hi Lo d p).2]) ∧ Pur w w' := by
  have h6 := @run_callFunc_extern Tryz.prog 158 _ Go.Extern.MathFloatBits.float64frombits Tryz.func158 (by kernel_rfl) (by kernel_rfl) (by kernel_rfl) (by kernel_rfl)
  have fb : ∀ (n : Int) (w : World), (Go.Extern.MathFloatBits.float64frombits #[.int .u64 n]).run Tryz.prog w = .ok (.float .f64 n.toNat) w := fun n w => rfl
  have BL := Tryz.bits_Len64 (d : Int) w (by omega) (by omega)
  rw [Int.toNat_natCast] at BL
  have LG := log2_any p w (by omega) (by omega)
  have hlg : -1147 ≤ lg p ∧ lg p ≤ 1030 := by unfold lg; omega
  have hbl : 1 ≤ Lib.bitLen d ∧ Lib.bitLen d ≤ 64 ∧ d * 2 ^ (64 - Lib.bitLen d) < 18446744073709551616 := by
    obtain ⟨h1, h2, h3⟩ := Lib.bitLenAux_bounds 64 d hd (by omega)
    have hle : Lib.bitLen d ≤ 64 := by
      rcases Nat.lt_or_ge 64 (Lib.bitLen d) with h | h
      · have : 2 ^ 64 ≤ 2 ^ (Lib.bitLen d - 1) := Nat.pow_le_pow_right (by decide) (by omega)
        have h2' : 2 ^ (Lib.bitLen d - 1) ≤ d := h2
        omega
      · exact h
    refine ⟨h1, hle, ?_⟩
    have h3' : d < 2 ^ Lib.bitLen d := h3
    have h4 : d * 2 ^ (64 - Lib.bitLen d) < 2 ^ Lib.bitLen d * 2 ^ (64 - Lib.bitLen d) := Nat.mul_lt_mul_of_pos_right h3' (Nat.pow_pos (by decide))
    rw [← Nat.pow_add, Nat.add_sub_cancel' hle] at h4
    exact h4
  obtain ⟨bl, hb⟩ : ∃ bl, Lib.bitLen d = bl := ⟨_, rfl⟩
  obtain ⟨g, hgg⟩ : ∃ g, lg p = g := ⟨_, rfl⟩
  obtain ⟨E, hE⟩ : ∃ E, expo d p = E := ⟨_, rfl⟩
  have hE1 : E = min 1074 (53 - (bl : Int) - g) := by rw [← hE]; unfold expo; rw [hb, hgg]
  rw [hb] at BL hbl
  rw [hgg] at LG hlg
  go_enter Tryz.func160, Tryz.ntmps160
  go_wp2_with fail
  refine BL.mono ?_
  rintro e w1 ⟨rfl, rfl⟩
  go_wp2_with fail
  refine LG.mono ?_
  rintro e w1 ⟨rfl, rfl⟩
  obtain ⟨k, hk⟩ := Int.eq_ofNat_of_zero_le (show 0 ≤ p + 348 by omega)
  obtain ⟨S, hS⟩ : ∃ S, scl d p = S := ⟨_, rfl⟩
  have hS1 : S = -(min 1074 (53 - (bl : Int) - g) - (64 - (bl : Int)) + g + 3) := by rw [← hS]; unfold scl; rw [hb, hgg, hE, hE1]
  have hS2 : 8 ≤ S := by omega
  have PS := prescale_any (w := w1.alloc (.cells #[.int .u64 0, .int .u64 0, .int .i64 0] 139)) (q := w1.heap.size) (k := k) (a := 0) (b := 0) (s := 0) (e := min 1074 (53 - (bl : Int) - g) - (64 - (bl : Int))) (p := p) (lp := g) (hT.pur ((Pur.refl _).alloc _)) (bk_new _ _) (Nat.ne_of_lt hg) hk (by omega) (by omega) (by omega)
  rw [← hS1] at PS
  have hRD := Lib.hid (show rdN Hi Lo d p = if 64 ≤ S then (9223372036854775808, false) else pk (9223372036854775808 + rnd (half (usc (d * 2 ^ (64 - bl)) (Hi k) (Lo k) S.toNat))) (-(min 1074 (53 - (bl : Int) - g) - (b2 (decide (36028797018963966 ≤ usc (d * 2 ^ (64 - bl)) (Hi k) (Lo k) S.toNat)) : Int))) by
    unfold rdN unr; rw [hS, hE, hb, hk, hE1]; rfl)
  have hHi := (hT.hi k (by omega)).2
  have hLo := (hT.lo k (by omega)).2
  have hEb : -1074 ≤ -(min 1074 (53 - (bl : Int) - g)) ∧ -(min 1074 (53 - (bl : Int) - g)) ≤ 3000 := by omega
  clear hS hE hb hgg hk hT
  go_wp2_with fail
  refine PS.mono ?_
  rintro e w2 ⟨rfl, s2, g2⟩
  have z2 := bk_cell s2 2 _ rfl
  have P2 : Pur w1 w2 := ((Chg.of_pur ((Pur.refl w1).alloc _)).trans g2).to_pur (fun b hb => by simp at hb; omega)
  by_cases h64 : 64 ≤ S
  · have HV := Lib.hid (show rdN Hi Lo d p = (9223372036854775808, false) by rw [hRD.out, if_pos h64])
    have b0 : bits .or .u64 9223372036854775808 0 = 9223372036854775808 := by decide
    clear hRD PS
    go_wp2
    go_ret2
    rw [HV.out]
    exact ⟨rfl, P2⟩
  · have h64' : ¬ (64 : Int) ≤ S := h64
    obtain ⟨X, hX⟩ : ∃ X, d * 2 ^ (64 - bl) = X := ⟨_, rfl⟩
    rw [hX] at hRD hbl
    have hXl := hbl.2.2
    have bb1 := hbl.1
    have bb2 := hbl.2.1
    have wx : IntKind.u64.wrap ((d : Int) * 2 ^ (64 - bl)) = (X : Int) := by
      rw [show (d : Int) * 2 ^ (64 - bl) = (X : Int) by rw [← hX, Int.natCast_mul, Int.natCast_pow]; rfl]
      exact IntWalk.u64_in _ (by omega)
    have hand : bits .and .i64 S 63 = (S.toNat : Int) := by
      have := bits_mask .i64 63 (by decide) wraps_i64 6 (by decide) S (by omega) (by omega)
      rw [show ((2 : Int) ^ 6 - 1) = 63 from rfl] at this
      rw [this]; omega
    have US := uscale_any (x := X) s2 hXl hHi hLo hand (by omega)
    have hUl := usc_lt X (Hi k) (Lo k) S.toNat hXl hHi hLo
    have HV := Lib.hid (hRD.out.trans (if_neg h64))
    have UM : ∀ w, Calls Tryz.prog 137 #[.int .u64 9007199254740992] w fun e w' => e = .returned (.int .u64 36028797018963966) ∧ w = w' := fun w => unmin_any 9007199254740992 w (by decide) (by decide)
    have hEb2 : -100000 ≤ min 1074 (53 - (bl : Int) - g) ∧ min 1074 (53 - (bl : Int) - g) ≤ 1074 := by omega
    generalize usc X (Hi k) (Lo k) S.toNat = U at *
    generalize min 1074 (53 - (bl : Int) - g) = E at *
    have BI := fun b w => bool2i_any b w
    have hE0 : -1075 ≤ -E := by omega
    clear PS hRD hX hXl hbl hand hHi hLo hS1 hE1 h64
    rcases hc : decide (36028797018963966 ≤ U) with _ | _
    · have hc' : decide ((36028797018963966 : Int) ≤ (U : Int)) = false := by rw [← hc, decide_eq_decide]; omega
      have hh : half U = U ||| U % 2 := by unfold half; rw [if_neg (by simpa using hc)]
      rw [hc, hh] at HV
      have b1 : bits .and .u64 (U : Int) 1 = ((U % 2 : Nat) : Int) := by
        have := u64_and_nat U 1 hUl (by decide)
        rw [show ((1 : Nat) : Int) = 1 from rfl] at this
        rw [this, show U &&& 1 = U % 2 from Nat.and_two_pow_sub_one_eq_mod U 1]
      have hal : U % 2 ≤ 1 := by omega
      have b3 : bits .or .u64 (U : Int) ((U % 2 : Nat) : Int) = ((U ||| U % 2 : Nat) : Int) := u64_or_nat U (U % 2) hUl (by omega)
      have em : ((U % 2 : Nat) : Int) = (U : Int) % 2 := by omega
      rw [em] at b1 b3
      clear em
      have hol : (U ||| U % 2) < 18446744073709551616 := Nat.or_lt_two_pow (n := 64) hUl (by omega)
      have RN := fun w => round_any (U ||| U % 2) w hol
      have hrl := rnd_lt (U ||| U % 2)
      clear hUl hh hc hol hal
      generalize rnd (U ||| U % 2) = R at *
      obtain ⟨R2, hR2⟩ : ∃ R2, 9223372036854775808 + R = R2 := ⟨_, rfl⟩
      have b4 : bits .or .u64 9223372036854775808 (R : Int) = (R2 : Int) := by
        rw [← hR2]
        have := u64_or_nat 9223372036854775808 R (by decide) (by omega)
        rw [show ((9223372036854775808 : Nat) : Int) = 9223372036854775808 from rfl] at this
        rw [this]
        congr 1
        exact (Nat.two_pow_add_eq_or_of_lt (i := 63) (b := R) (by omega) 1).symm
      have PK := fun w => pack_any R2 (-E) w (by omega) hE0 (by omega)
      have HV2 := Lib.hid (show rdN Hi Lo d p = pk R2 (-E) by rw [HV.out, ← hR2]; simp [b2])
      clear HV hrl hR2
      go_wp2_with fail
      refine US.mono ?_
      rintro e w3 ⟨rfl, p3⟩
      go_wp2_with fail
      with_reducible refine (UM _).mono ?_
      rintro e w4 ⟨rfl, rfl⟩
      have BF : ∀ w, Calls Tryz.prog 136 #[.bool false] w fun e w' => e = .returned (.int .i64 0) ∧ w = w' := fun w => BI false w
      go_wp2_with fail
      with_reducible refine (BF _).mono ?_
      rintro e w5 ⟨rfl, rfl⟩
      go_wp2_with fail
      with_reducible refine (RN _).mono ?_
      rintro e w6 ⟨rfl, rfl⟩
      go_wp2_with fail
      with_reducible refine (PK _).mono ?_
      rintro e w7 ⟨rfl, rfl⟩
      go_wp2
      go_ret2
      rw [HV2.out]
      exact ⟨rfl, P2.trans p3⟩
    · have hc' : decide ((36028797018963966 : Int) ≤ (U : Int)) = true := by rw [← hc, decide_eq_decide]; omega
      have hh : half U = U / 2 ||| U % 2 := by unfold half; rw [if_pos (by simpa using hc)]
      rw [hc, hh] at HV
      have b1 : bits .and .u64 (U : Int) 1 = ((U % 2 : Nat) : Int) := by
        have := u64_and_nat U 1 hUl (by decide)
        rw [show ((1 : Nat) : Int) = 1 from rfl] at this
        rw [this, show U &&& 1 = U % 2 from Nat.and_two_pow_sub_one_eq_mod U 1]
      have hal : U % 2 ≤ 1 := by omega
      have hdl : U / 2 < 18446744073709551616 := by omega
      have b3 : bits .or .u64 ((U : Int) / 2) ((U % 2 : Nat) : Int) = ((U / 2 ||| U % 2 : Nat) : Int) := u64_or_nat (U / 2) (U % 2) hdl (by omega)
      have em : ((U % 2 : Nat) : Int) = (U : Int) % 2 := by omega
      rw [em] at b1 b3
      clear em
      have hol : (U / 2 ||| U % 2) < 18446744073709551616 := Nat.or_lt_two_pow (n := 64) hdl (by omega)
      have RN := fun w => round_any (U / 2 ||| U % 2) w hol
      have hrl := rnd_lt (U / 2 ||| U % 2)
      clear hUl hh hc hol hal hdl
      generalize rnd (U / 2 ||| U % 2) = R at *
      obtain ⟨R2, hR2⟩ : ∃ R2, 9223372036854775808 + R = R2 := ⟨_, rfl⟩
      have b4 : bits .or .u64 9223372036854775808 (R : Int) = (R2 : Int) := by
        rw [← hR2]
        have := u64_or_nat 9223372036854775808 R (by decide) (by omega)
        rw [show ((9223372036854775808 : Nat) : Int) = 9223372036854775808 from rfl] at this
        rw [this]
        congr 1
        exact (Nat.two_pow_add_eq_or_of_lt (i := 63) (b := R) (by omega) 1).symm
      have w9 : IntKind.i64.wrap (-(E - 1)) = -(E - 1) := IntWalk.i64_in _ (by omega)
      have PK := fun w => pack_any R2 (-(E - 1)) w (by omega) (by omega) (by omega)
      have HV2 := Lib.hid (show rdN Hi Lo d p = pk R2 (-(E - 1)) by rw [HV.out, ← hR2]; simp [b2])
      clear HV hrl hR2
      go_wp2_with fail
      refine US.mono ?_
      rintro e w3 ⟨rfl, p3⟩
      go_wp2_with fail
      with_reducible refine (UM _).mono ?_
      rintro e w4 ⟨rfl, rfl⟩
      have BT : ∀ w, Calls Tryz.prog 136 #[.bool true] w fun e w' => e = .returned (.int .i64 1) ∧ w = w' := fun w => BI true w
      go_wp2_with fail
      with_reducible refine (BT _).mono ?_
      rintro e w5 ⟨rfl, rfl⟩
      go_wp2_with fail
      with_reducible refine (RN _).mono ?_
      rintro e w6 ⟨rfl, rfl⟩
      go_wp2_with fail
      with_reducible refine (PK _).mono ?_
      rintro e w7 ⟨rfl, rfl⟩
      go_wp2
      go_ret2
      rw [HV2.out]
      exact ⟨rfl, P2.trans p3⟩
end Us
end Go.Proofs.YtciigfaojmpoiaaGreatDoor
namespace Go.Proofs.YtciigfaojmpoiaaGreatDoor
open Go Go.RowKit
set_option linter.all false
namespace Rb
open Us P10
open Ft hiding V expo
set_option exponentiation.threshold 20000
theorem or63 {z : Nat} (h : z < 9223372036854775808) : 9223372036854775808 + z = 9223372036854775808 ||| z := Nat.two_pow_add_eq_or_of_lt (i := 63) (b := z) h 1
theorem pk_sign {m b : Nat} {e : Int} (hm : m < 4611686018427387905) (he : -1075 ≤ e) (h : pk m e = (b, false)) : pk (9223372036854775808 + m) e = (9223372036854775808 + b, false) := by
  have c1 : (9223372036854775808 + m) &&& 4503599627370496 = m &&& 4503599627370496 := by
    rw [or63 (by omega), Nat.and_or_distrib_right, show (9223372036854775808 &&& 4503599627370496 : Nat) = 0 by decide, Nat.zero_or]
  unfold pk at h ⊢
  rw [c1]
  by_cases g : m &&& 4503599627370496 = 0
  · rw [if_pos g] at h ⊢
    have : m = b := congrArg Prod.fst h
    rw [this]
  · rw [if_neg g] at h ⊢
    by_cases g2 : 972 ≤ e
    · rw [if_pos g2] at h
      have := congrArg Prod.snd h
      cases this
    · rw [if_neg g2] at h ⊢
      have hb := congrArg Prod.fst h
      simp only at hb
      obtain ⟨K, hK⟩ : ∃ K : Nat, (1075 + e) * 4503599627370496 = (K : Int) := ⟨((1075 + e) * 4503599627370496).toNat, by omega⟩
      have hK2 : K < 9223372036854775808 := by omega
      have a1 := u64_andNot_nat m 4503599627370496 (by omega) (by decide)
      have a2 := u64_andNot_nat (9223372036854775808 + m) 4503599627370496 (by omega) (by decide)
      rw [show ((4503599627370496 : Nat) : Int) = 4503599627370496 from rfl] at a1 a2
      have hy : m &&& (18446744073709551615 - 4503599627370496) ≤ m := Nat.and_le_left
      have a3 : (9223372036854775808 + m) &&& (18446744073709551615 - 4503599627370496) = 9223372036854775808 + (m &&& (18446744073709551615 - 4503599627370496)) := by
        rw [or63 (by omega), Nat.and_or_distrib_right, show (9223372036854775808 &&& (18446744073709551615 - 4503599627370496) : Nat) = 9223372036854775808 by decide, or63 (by omega)]
      rw [a1, hK] at hb
      rw [a2, hK, a3]
      generalize m &&& (18446744073709551615 - 4503599627370496) = y at *
      have o1 := u64_or_nat y K (by omega) (by omega)
      have o2 := u64_or_nat (9223372036854775808 + y) K (by omega) (by omega)
      rw [o1, Int.toNat_natCast] at hb
      rw [o2, Int.toNat_natCast]
      have hz : y ||| K < 9223372036854775808 := Nat.or_lt_two_pow (n := 63) (by omega) hK2
      congr 1
      rw [or63 (by omega), Nat.or_assoc, ← or63 hz, hb]
/-- with a sign -/
theorem rdN_right {M : Nat} {Q : Int} {b : Nat} (hM0 : 0 < M) (hM : M < 18446744073709551616) (hQ0 : -345 ≤ Q) (hQ1 : Q ≤ 310) (near : Near M Q) (hb0 : 0 < b) (hb1 : b < 9218868437227405312)
    (hI : Inv b (M * 10 ^ Q.toNat * 2 ^ 1074) (10 ^ (-Q).toNat)) : rdN Hi0 Lo0 M Q = (9223372036854775808 + b, false) := by
  have h := rd_right hM0 hM hQ0 hQ1 near hb0 hb1 hI
  unfold rd at h
  unfold rdN
  by_cases c : 64 ≤ scl M Q
  · rw [if_pos c] at h
    have : 0 = b := congrArg Prod.fst h
    omega
  · rw [if_neg c] at h ⊢
    have h1 : expo M Q ≤ 1074 := by unfold expo; omega
    exact pk_sign (by have := rnd_lt (half (Us.unr Hi0 Lo0 M Q)); omega) (by omega) h
end Rb
end Go.Proofs.YtciigfaojmpoiaaGreatDoor
namespace Go.Proofs.YtciigfaojmpoiaaGreatDoor
open Go Go.RowKit
set_option linter.all false
namespace Rb
open Us P10
open Ft hiding V expo
set_option exponentiation.threshold 40000
set_option maxRecDepth 100000 in
set_option maxHeartbeats 16000000 in
/-- THE READING IS RIGHT, a sign ahead -/
theorem atof_rightN {l : List UInt8} {m : Nat} {p : Int} {b : Nat} (hR : ∀ w, Calls Tryz.prog 149 #[.string ⟨l.toArray⟩] w fun e w' => e = .returned (.tuple #[.int .u64 (m : Int), .int .i64 p, .bool true, .bool false, .bool false, .int .i64 (l.length : Int), .bool true]) ∧ w = w') (hm0 : 0 < m) (hm : m < 18446744073709551616) (hp : -345 ≤ p) (hp2 : p ≤ 310)
    (SP : ∀ w, Calls Tryz.prog 148 #[.string ⟨l.toArray⟩] w fun e w' => e = .returned (.tuple #[.float .f64 0, .int .i64 0, .bool false]) ∧ w = w') (near : Near m p) (hb0 : 0 < b) (hb1 : b < 9218868437227405312)
    (hI : Inv b (m * 10 ^ p.toNat * 2 ^ 1074) (10 ^ (-p).toNat)) : AD Hi0 Lo0 T0 l (9223372036854775808 + b) false := by
  have BF : ∀ w, Calls Tryz.prog 157 #[.bool true] w fun e w' => e = .returned (.int .u64 1) ∧ w = w' := fun w => bool2_any true w
  have b0 : bits .or .u64 0 0 = 0 := by decide
  have d1 : ((m : Int) == 0) = false := by rw [beq_eq_false_iff_ne]; omega
  have d2 : decide ((310 : Int) < p) = false := by rw [decide_eq_false_iff_not]; omega
  have d3 : decide (p < -345) = false := by rw [decide_eq_false_iff_not]; omega
  have hrd := rdN_right hm0 hm hp hp2 near hb0 hb1 hI
  obtain ⟨x, ok, EX, hx⟩ := exact_all true m p hm0 hp hp2 hb0 hb1 hI
  intro w hW
  have co := hW.op
  have E1 := EX w hW.ft hW.f
  have P1 := parse_neg m p hW.pt hW.lt (by omega) hm (by omega) (by omega)
  rw [hrd] at P1
  rcases ok with _ | _
  · clear hW hm EX hx hrd hI near
    go_enter Tryz.func120, Tryz.ntmps120
    go_wp2_with fail
    refine (SP _).mono ?_
    rintro e w1 ⟨rfl, rfl⟩
    go_wp2_with fail
    refine (hR _).mono ?_
    rintro e w1 ⟨rfl, rfl⟩
    go_wp2_with fail
    refine (BF _).mono ?_
    rintro e w1 ⟨rfl, rfl⟩
    go_wp2_with fail
    refine E1.mono ?_
    rintro e w1 ⟨rfl, rfl⟩
    go_wp2_with fail
    refine P1.mono ?_
    rintro e w1 ⟨rfl, p1⟩
    go_wp2
    go_ret3
    exact ⟨rfl, p1⟩
  · obtain rfl : x = 9223372036854775808 + b := (hx rfl).trans (by unfold Ieee.Format.word; rw [Ie.d_sign, if_pos rfl])
    clear hW hm EX hx hrd hI near P1
    go_enter Tryz.func120, Tryz.ntmps120
    go_wp2_with fail
    refine (SP _).mono ?_
    rintro e w1 ⟨rfl, rfl⟩
    go_wp2_with fail
    refine (hR _).mono ?_
    rintro e w1 ⟨rfl, rfl⟩
    go_wp2_with fail
    refine (BF _).mono ?_
    rintro e w1 ⟨rfl, rfl⟩
    go_wp2_with fail
    refine E1.mono ?_
    rintro e w1 ⟨rfl, rfl⟩
    go_wp2
    go_ret3
    exact ⟨rfl, Pur.refl _⟩
end Rb
end Go.Proofs.YtciigfaojmpoiaaGreatDoor
