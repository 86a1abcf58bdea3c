/- NumCuts, NumBits: the walks. -/
import Derived.Test.YtciigfaojmpoiaaGreatDoorFt24
namespace Go.Proofs.YtciigfaojmpoiaaGreatDoor
open Go Go.RowKit
set_option linter.all false
namespace Mt
set_option exponentiation.threshold 3000
theorem same_refl (a : Nat) : same a a = true := by
  unfold same
  rcases Ie.nan a with _ | _ <;> simp
theorem write_lt (d : Ieee.Datum) : Ieee.double.write d < 18446744073709551616 := Ieee.double.write_lt d
theorem whole_lt (b : Nat) : whole b < 18446744073709551616 := by
  unfold whole
  split
  · decide
  · exact write_lt _
theorem foi (z : Int) : floatOfInt .f64 z = Ieee.double.write (.number (decide (z < 0)) z.natAbs 0) := rfl
theorem int_word (z : Int) (h : z.natAbs < 9007199254740992) : ∃ c, c < 9218868437227405312 ∧ Ie.V c = z.natAbs * 2 ^ 1074 ∧ floatOfInt .f64 z = Ieee.double.word (decide (z < 0)) c := by
  obtain ⟨c, hc, hv⟩ := Ie.int_has z h
  exact ⟨c, hc, hv, by rw [foi]; exact Ie.int_sv hc hv⟩
theorem int_lt (z : Int) : floatOfInt .f64 z < 18446744073709551616 := by rw [foi]; exact write_lt _
theorem int_fin (z : Int) (h : z.natAbs < 9007199254740992) : Ie.nan (floatOfInt .f64 z) = false ∧ inf (floatOfInt .f64 z) = false := by
  obtain ⟨c, hc, hv, e⟩ := int_word z h
  have hs := Ie.word_split (decide (z < 0)) c (by omega)
  rw [e]
  refine ⟨?_, ?_⟩
  · unfold Ie.nan; rw [hs.2, decide_eq_false_iff_not]; omega
  · unfold inf; rw [hs.2, beq_eq_false_iff_ne]; omega
/-- a whole number modulo 2^32 -/
theorem u32_int (z : Int) (h : z.natAbs < 9007199254740992) : (u32 (floatOfInt .f64 z) : Int) = z % 4294967296 := by
  obtain ⟨c, hc, hv, e⟩ := int_word z h
  obtain ⟨f1, f2⟩ := int_fin z h
  have hs := Ie.word_split (decide (z < 0)) c (by omega)
  have hw : wh (floatOfInt .f64 z) = z.natAbs := by
    unfold wh
    rw [e, hs.2, hv, Nat.mul_div_cancel _ (Nat.pow_pos (by decide))]
  unfold u32
  rw [if_neg (by rw [f1, f2]; decide), hw]
  have hlt : 9223372036854775808 ≤ floatOfInt .f64 z ↔ z < 0 := by
    rw [e]
    unfold Ieee.Format.word
    rw [Ie.d_sign]
    by_cases g : z < 0
    · rw [decide_eq_true g, if_pos rfl]; omega
    · rw [decide_eq_false g, if_neg (by decide)]; omega
  by_cases g : z < 0
  · rw [if_pos (hlt.2 g)]; omega
  · rw [if_neg (fun k => g (hlt.1 k))]; omega
set_option maxRecDepth 100000 in
set_option maxHeartbeats 4000000 in
theorem cuts_law (a b : Nat) (w : World) (ha : a < 18446744073709551616) (hb : b < 18446744073709551616) (h : Ft.AK w) :
    Calls Tryz.prog 3 #[.float .f64 a, .float .f64 b] w fun e w' => e = .returned (.bool true) ∧ Pur w w' := by
  have AW := Ft.awake_any h
  have W1 := fun w => whole_any a w ha
  have W2 := fun w => rwhole_any a w ha
  have S1 := fun w => rsame_any (whole a) (whole a) w (whole_lt a) (whole_lt a)
  rw [same_refl] at S1
  have U1 := fun w => uint32_any a w ha
  have U2 := fun w => ruint32_any a w ha
  have I1 := fun w => int32_any a w ha
  have I2 := fun w => rint32_any a w ha
  have Q1 := fun w => same_any a b w ha hb
  have Q2 := fun w => rsame_any a b w ha hb
  have Q3 := fun w => same_any a a w ha ha
  rw [same_refl] at Q3
  generalize whole a = x at *
  generalize IntKind.i32.wrap (u32 a : Nat) = i at *
  generalize u32 a = u at *
  generalize same a b = q at *
  clear h ha hb
  go_enter Tryz.func3, Tryz.ntmps3
  go_wp2_with fail
  refine AW.mono ?_
  rintro e w1 ⟨rfl, p1⟩
  go_wp2_with fail
  refine (W1 _).mono ?_
  rintro e w2 ⟨rfl, rfl⟩
  go_wp2_with fail
  refine (W2 _).mono ?_
  rintro e w2 ⟨rfl, rfl⟩
  go_wp2_with fail
  refine (S1 _).mono ?_
  rintro e w2 ⟨rfl, rfl⟩
  go_wp2_with fail
  refine (U1 _).mono ?_
  rintro e w2 ⟨rfl, rfl⟩
  go_wp2_with fail
  refine (U2 _).mono ?_
  rintro e w2 ⟨rfl, rfl⟩
  go_wp2_with fail
  refine (I1 _).mono ?_
  rintro e w2 ⟨rfl, rfl⟩
  go_wp2_with fail
  refine (I2 _).mono ?_
  rintro e w2 ⟨rfl, rfl⟩
  go_wp2_with fail
  refine (Q1 _).mono ?_
  rintro e w2 ⟨rfl, rfl⟩
  go_wp2_with fail
  refine (Q2 _).mono ?_
  rintro e w2 ⟨rfl, rfl⟩
  go_wp2_with fail
  refine (Q3 _).mono ?_
  rintro e w2 ⟨rfl, rfl⟩
  go_wp2
  go_ret
  exact ⟨rfl, p1⟩
theorem wrap_mod (m : Int) (A : Nat) (h : (A : Int) = m % 4294967296) : IntKind.i32.wrap (A : Int) = IntKind.i32.wrap m := by
  rw [IntKind.wrap_i32, IntKind.wrap_i32, h, Int.emod_add_emod]
theorem wrap_back (A : Nat) (h : A < 4294967296) : IntKind.u32.wrap (IntKind.i32.wrap (A : Int)) = (A : Int) := by
  rw [IntKind.wrap_i32, IntKind.wrap_u32]
  rw [Int.sub_emod, Int.emod_emod_of_dvd _ (Int.dvd_refl _), ← Int.sub_emod, Int.add_sub_cancel]
  exact Int.emod_eq_of_lt (by omega) (by omega)
set_option maxRecDepth 100000 in
set_option maxHeartbeats 4000000 in
theorem bits_law (n k : Int) (w : World) (hk0 : 0 ≤ k) (hk : k < 65536) (h : Ft.AK w) :
    Calls Tryz.prog 5 #[.int .i64 n, .int .u16 k] w fun e w' => e = .returned (.bool true) ∧ Pur w w' := by
  have AW := Ft.awake_any h
  obtain ⟨m, hm⟩ : ∃ m, n.tmod 281474976710656 = m := ⟨_, rfl⟩
  have hm1 : m.natAbs < 281474976710656 := by rw [← hm]; have := Int.natAbs_tmod n 281474976710656; rw [this]; exact Nat.mod_lt _ (by decide)
  have hm := Lib.hid hm
  obtain ⟨y, hy⟩ : ∃ y, m + k * 4294967296 = y := ⟨_, rfl⟩
  have hy1 : y.natAbs < 9007199254740992 := by omega
  have x1 : IntKind.i64.wrap (k * 4294967296) = k * 4294967296 := IntWalk.i64_in _ (by omega)
  have x2 : IntKind.i64.wrap k = k := IntWalk.i64_in _ (by omega)
  have x3 : IntKind.i64.wrap (m + k * 4294967296) = y := by rw [hy]; exact IntWalk.i64_in _ (by omega)
  have key : ∀ A B : Nat, (A : Int) = m % 4294967296 → (B : Int) = y % 4294967296 → B = A := fun A B h1 h2 => by omega
  have key2 : ∀ A : Nat, (A : Int) = m % 4294967296 → IntKind.i32.wrap (A : Int) = IntKind.i32.wrap m ∧ IntKind.u32.wrap (IntKind.i32.wrap (A : Int)) = (A : Int) := fun A h1 => ⟨wrap_mod m A h1, wrap_back A (by omega)⟩
  have hm2 : m.natAbs < 9007199254740992 := Nat.lt_trans hm1 (by decide)
  have H1 : ∃ (fx u : Nat), floatOfInt .f64 m = fx ∧ fx < 18446744073709551616 ∧ u32 fx = u ∧ (u : Int) = m % 4294967296 := ⟨_, _, rfl, int_lt m, rfl, u32_int m hm2⟩
  have H2 : ∃ (fy v : Nat), floatOfInt .f64 y = fy ∧ fy < 18446744073709551616 ∧ u32 fy = v ∧ (v : Int) = y % 4294967296 := ⟨_, _, rfl, int_lt y, rfl, u32_int y hy1⟩
  obtain ⟨fx, u, x4, l1, hu, e1⟩ := H1
  obtain ⟨fy, v, x5, l2, hv, e2⟩ := H2
  obtain rfl := key u v e1 e2
  obtain ⟨k1, k2⟩ := key2 _ e1
  have U1 := fun w => uint32_any fx w l1
  have U2 := fun w => uint32_any fy w l2
  have I1 := fun w => int32_any fx w l1
  rw [hu] at U1 I1
  rw [hv] at U2
  obtain ⟨W, hW⟩ : ∃ W, IntKind.i32.wrap (m : Int) = W := ⟨_, rfl⟩
  rw [k1, hW] at k2
  rw [k1, hW] at I1
  have hm' := hm.out
  clear h e1 e2 key key2 hm hy hm1 hy1 hm2 hk0 hk hu hv l1 l2 k1
  go_enter Tryz.func5, Tryz.ntmps5
  go_wp2_with fail
  refine AW.mono ?_
  rintro e w1 ⟨rfl, p1⟩
  go_wp2_with fail
  refine (I1 _).mono ?_
  rintro e w2 ⟨rfl, rfl⟩
  go_wp2_with fail
  refine (U1 _).mono ?_
  rintro e w2 ⟨rfl, rfl⟩
  go_wp2_with fail
  refine (U2 _).mono ?_
  rintro e w2 ⟨rfl, rfl⟩
  go_wp2_with fail
  refine (U1 _).mono ?_
  rintro e w2 ⟨rfl, rfl⟩
  go_wp2_with fail
  refine (I1 _).mono ?_
  rintro e w2 ⟨rfl, rfl⟩
  go_wp2
  go_ret
  exact ⟨rfl, p1⟩
end Mt
end Go.Proofs.YtciigfaojmpoiaaGreatDoor
