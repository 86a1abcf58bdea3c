/- NumWholes: the walk. -/
import Derived.Test.YtciigfaojmpoiaaGreatDoorFtH
namespace Go.Proofs.YtciigfaojmpoiaaGreatDoor
open Go Go.RowKit
set_option linter.all false
namespace Mt
set_option exponentiation.threshold 3000
theorem whole_int (z : Int) (h : z.natAbs < 9007199254740992) : whole (floatOfInt .f64 z) = floatOfInt .f64 z := by
  obtain ⟨c, hc, hv, e⟩ := int_word z h
  rw [e]
  exact whole_fin _ hc hc (by rw [hv, Nat.mul_div_cancel _ (Nat.pow_pos (by decide))])
theorem zT_len (z : Int) (h : z.natAbs < 9007199254740992) : (Ft.zT z).length ≤ 21 := by
  have := Ft.dec_le z.natAbs (by omega)
  unfold Ft.zT
  split
  · rw [List.length_cons]; omega
  · omega
set_option maxRecDepth 100000 in
set_option maxHeartbeats 4000000 in
theorem wholes_law (n : Int) (w : World) (h : Ft.AK w) :
    Calls Tryz.prog 4 #[.int .i64 n] w fun e w' => e = .returned (.bool true) ∧ Pur w w' := by
  have AW := Ft.awake_any h
  obtain ⟨m, hm⟩ : ∃ m, n.tmod 1000000000000000 = m := ⟨_, rfl⟩
  have hm1 : m.natAbs < 1000000000000000 := by rw [← hm]; have := Int.natAbs_tmod n 1000000000000000; rw [this]; exact Nat.mod_lt _ (by decide)
  have hm2 : m.natAbs < 9007199254740992 := Nat.lt_trans hm1 (by decide)
  have hmh := Lib.hid hm
  have H1 : ∃ (fx : Nat) (u : Nat), floatOfInt .f64 m = fx ∧ fx < 18446744073709551616 ∧ u32 fx = u ∧ (u : Int) = m % 4294967296 ∧ whole fx = fx ∧ Ie.nan fx = false ∧ Ft.txt P10.Hi0 P10.Lo0 fx = Ft.zT m :=
    ⟨_, _, rfl, int_lt m, rfl, u32_int m hm2, whole_int m hm2, (int_fin m hm2).1, Ft.txt_whole m (Nat.lt_trans hm1 (by decide))⟩
  obtain ⟨fx, u, x4, l1, hu, e1, hwh, hnan, ht⟩ := H1
  have T1 := fun (W : World) (hp : Pur w W) => Ft.text_any fx (h.pur hp).x l1
  simp only [ht] at T1
  have W1 := fun w => whole_any fx w l1
  rw [hwh] at W1
  have U1 := fun w => uint32_any fx w l1
  rw [hu] at U1
  have o1 : FloatKind.f64.format.order fx fx = some .eq := Ie.order_self l1 hnan
  have x5 : IntKind.u32.wrap m = (u : Int) := by rw [IntKind.wrap_u32, e1]
  have hlen := Ft.dec_le m.natAbs (by omega)
  have D1 := fun w => Ft.rdec_any m.natAbs w (by omega)
  by_cases g : m < 0
  · obtain ⟨k, rfl⟩ : ∃ k : Nat, m = -(k : Int) := ⟨m.natAbs, by omega⟩
    have hk0 : 0 < k := by omega
    rw [Int.natAbs_neg, Int.natAbs_natCast] at D1 hlen hm1
    have hz : Ft.zT (-(k : Int)) = 45 :: Lib.decDigits k := by unfold Ft.zT; rw [if_pos g, Int.natAbs_neg, Int.natAbs_natCast]
    simp only [hz] at T1
    have w1 : IntKind.i64.wrap (k : Int) = (k : Int) := IntWalk.i64_in _ (by omega)
    have hm' := hmh.out
    clear hz ht hwh hu l1 hnan e1 hm1 hm2 g hm hmh h
    generalize Lib.decDigits k = D at *
    have z1 : ¬ 9223372036854775807 < 1 + D.length := by omega
    go_enter Tryz.func4, Tryz.ntmps4
    go_wp2_with fail
    refine AW.mono ?_
    rintro e w1 ⟨rfl, p1⟩
    go_wp2_with fail
    refine (T1 _ p1).mono ?_
    rintro e w2 ⟨rfl, q2⟩
    have p2 := p1.trans q2
    go_wp2_with fail
    refine (D1 _).mono ?_
    rintro e w3 ⟨rfl, q3⟩
    have p3 := p2.trans q3
    go_wp2_with fail
    refine (W1 _).mono ?_
    rintro e w4 ⟨rfl, rfl⟩
    go_wp2_with fail
    refine (U1 _).mono ?_
    rintro e w4 ⟨rfl, rfl⟩
    go_wp2
    go_ret
    exact ⟨rfl, p3⟩
  · obtain ⟨k, rfl⟩ : ∃ k : Nat, m = (k : Int) := ⟨m.natAbs, by omega⟩
    rw [Int.natAbs_natCast] at D1 hlen hm1
    have hz : Ft.zT (k : Int) = Lib.decDigits k := by unfold Ft.zT; rw [if_neg g, Int.natAbs_natCast]
    simp only [hz] at T1
    have d0 : decide ((k : Int) < 0) = false := decide_eq_false g
    have w1 : IntKind.i64.wrap (k : Int) = (k : Int) := IntWalk.i64_in _ (by omega)
    have hm' := hmh.out
    clear hz ht hwh hu l1 hnan e1 hm1 hm2 g hm hmh h
    generalize Lib.decDigits k = D at *
    have z1 : ¬ 9223372036854775807 < 0 + D.length := by omega
    go_enter Tryz.func4, Tryz.ntmps4
    go_wp2_with fail
    refine AW.mono ?_
    rintro e w1 ⟨rfl, p1⟩
    go_wp2_with fail
    refine (T1 _ p1).mono ?_
    rintro e w2 ⟨rfl, q2⟩
    have p2 := p1.trans q2
    go_wp2_with fail
    refine (D1 _).mono ?_
    rintro e w3 ⟨rfl, q3⟩
    have p3 := p2.trans q3
    go_wp2_with fail
    refine (W1 _).mono ?_
    rintro e w4 ⟨rfl, rfl⟩
    go_wp2_with fail
    refine (U1 _).mono ?_
    rintro e w4 ⟨rfl, rfl⟩
    go_wp2
    go_ret
    exact ⟨rfl, p3⟩
end Mt
end Go.Proofs.YtciigfaojmpoiaaGreatDoor
