/- Layer 8: the document's Index; a number's digits told as an index. -/
import Derived.Test.YtfophnmnehpenaaDoorHp3
namespace Go.Proofs.YtfophnmnehpenaaDoor
open Go Go.RowKit
set_option linter.all false
theorem beq_no {l m : Bytes} (h : ¬ l = m) : (l == m) = false := by simpa using h
theorem isEmpty_no {l : Bytes} (h : ¬ l = []) : List.isEmpty l = false := by cases l <;> simp_all
set_option maxRecDepth 100000 in
set_option maxHeartbeats 4000000 in
theorem rindex_bad (l : List UInt8) (w : World) (hs : l.length ≤ 1000000000) (hb : badLen l = true) :
    Calls Tryd.prog 10 #[.string ⟨l.toArray⟩] w fun e w' => e = .returned (.int .i64 (-1)) ∧ Pur w w' := by
  unfold badLen at hb
  by_cases h0 : l = []
  · subst h0
    go_enter Tryd.func10, Tryd.ntmps10
    go_wp2
    go_ret
    exact ⟨rfl, Pur.refl w⟩
  have q0' := isEmpty_no h0
  have q0'' := beq_no h0
  have hpos := List.length_pos_iff.2 h0
  obtain ⟨b1, t1⟩ : ∃ b1, ((l.length : Int) % 2 == 1) = b1 := ⟨_, rfl⟩
  obtain ⟨b3, t3⟩ : ∃ b3, decide ((20 : Int) < (l.length : Int)) = b3 := ⟨_, rfl⟩
  have hor : (b1 || b3) = true := by
    rw [← t1, ← t3]
    simp only [Bool.or_eq_true, bne_iff_ne, beq_iff_eq, decide_eq_true_eq, ne_eq] at hb ⊢
    omega
  have t1' : ((l.length : Int).tmod 2 == 1) = b1 := by rw [Int.tmod_eq_emod_of_nonneg (by omega)]; exact t1
  clear hb h0
  rcases b1 with _ | _ <;> rcases b3 with _ | _
  · exact absurd hor (by decide)
  all_goals
    go_enter Tryd.func10, Tryd.ntmps10
    go_wp2
    go_ret
    exact ⟨rfl, Pur.refl w⟩
set_option maxRecDepth 100000 in
set_option maxHeartbeats 4000000 in
theorem rindex_any (l : List UInt8) (w : World) (hs : l.length ≤ 1000000000) :
    Calls Tryd.prog 10 #[.string ⟨l.toArray⟩] w fun e w' => e = .returned (.int .i64 (rx (index l))) ∧ Pur w w' := by
  rw [← index_rindex]
  by_cases hb : badLen l = true
  · have e : rindex l = none := by unfold rindex; rw [if_pos hb]
    rw [e]
    exact rindex_bad l w hs hb
  have e : rindex l = (dgL (unitsOf l) 0).bind fun n => if 2147483647 < n ∨ keyOf n ≠ l then none else some n := by unfold rindex; rw [if_neg hb]
  have E := Lib.hid e
  clear e
  unfold badLen at hb
  simp only [Bool.or_eq_true, bne_iff_ne, beq_iff_eq, decide_eq_true_eq, ne_eq, not_or, Decidable.not_not, Nat.not_lt] at hb
  have h0 : l ≠ [] := fun h => by rw [h] at hb; simp at hb
  have q0' := isEmpty_no h0
  have q0'' := beq_no h0
  have t1 : ((l.length : Int) % 2 == 1) = false := by simp only [beq_eq_false_iff_ne, ne_eq]; omega
  have t1' : ((l.length : Int).tmod 2 == 1) = false := by rw [Int.tmod_eq_emod_of_nonneg (by omega)]; exact t1
  have t3 : decide ((20 : Int) < (l.length : Int)) = false := decide_eq_false (by omega)
  have hl20 : l.length ≤ 20 := hb.2
  clear hb h0
  go_enter Tryd.func10, Tryd.ntmps10
  go_wp2
  go_loopw [3, 4] (fun a k wr => ∃ n v : Nat, n ≤ l.length / 2 ∧ k = .int .i64 n ∧ a = .int .i64 v ∧ v < 10 ^ n ∧ Pur w wr ∧ Hid (dgL (unitsOf l) 0 = dgL ((unitsOf l).drop n) v)) (fun _ k _ => l.length + 1 - (intOf k).toNat)
  case atStart => exact ⟨0, 0, by omega, rfl, rfl, by simp, Pur.refl w, Lib.hid (by simp)⟩
  case round =>
    obtain ⟨n, v, hn, rfl, rfl, hv, hpr, H⟩ := hrel
    have hv10 : v < 10000000000 := Nat.lt_of_lt_of_le hv (Nat.pow_le_pow_right (by decide) (show n ≤ 10 by omega))
    by_cases hlt : n < l.length / 2
    · have hlt' : (n : Int) < (l.length : Int) / 2 := by omega
      have A := fun w => rat_in l n w (by omega) hlt
      have hu := at16_lt l n
      have HS := Lib.hid (H.out.trans (by rw [units_step l n hlt, dgL]))
      have hv9 : v < 1000000000 := Nat.lt_of_lt_of_le hv (Nat.pow_le_pow_right (by decide) (show n ≤ 9 by omega))
      have HP := Lib.hid (show v * 10 + 9 < 10 ^ (n + 1) from by rw [Nat.pow_succ]; omega)
      clear hv
      generalize at16 l n = u at *
      clear H
      obtain ⟨b1, q1⟩ : ∃ b1, decide ((u : Int) < 48) = b1 := ⟨_, rfl⟩
      obtain ⟨b2, q2⟩ : ∃ b2, decide ((57 : Int) < (u : Int)) = b2 := ⟨_, rfl⟩
      by_cases hbad : u < 48 ∨ 57 < u
      · have HN := Lib.hid (E.out.trans (congrArg (fun o => Option.bind o _) (HS.out.trans (if_pos hbad))))
        have hor : (b1 || b2) = true := by
          rw [← q1, ← q2]
          simp only [Bool.or_eq_true, decide_eq_true_eq]
          omega
        clear HS hbad
        rcases b1 with _ | _ <;> rcases b2 with _ | _
        all_goals
          first
          | exact absurd hor (by decide)
          | (clear hor
             go_wp2_with fail
             refine (A _).mono ?_
             rintro e w2 ⟨rfl, h2⟩
             go_wp2
             go_ret
             refine ⟨?_, hpr.trans h2⟩
             rw [HN.out]
             rfl)
      · have HN := Lib.hid (HS.out.trans (if_neg hbad))
        have c1 : b1 = false := by rw [← q1]; exact decide_eq_false (by omega)
        have c2 : b2 = false := by rw [← q2]; exact decide_eq_false (by omega)
        obtain ⟨x, hx⟩ : ∃ x : Nat, v * 10 + (u - 48) = x := ⟨_, rfl⟩
        have e2 : (v : Int) * 10 + u - 48 = (x : Int) := by omega
        have HX := Lib.hid hx
        subst c1 c2
        have hxb : x < 10000000000 := by omega
        have hx9 : x ≤ v * 10 + 9 := by omega
        have hu2 : 48 ≤ u ∧ u ≤ 57 := by omega
        clear HS hbad hx E
        go_wp2_with fail
        refine (A _).mono ?_
        rintro e w2 ⟨rfl, h2⟩
        go_wp2
        go_roundw
        case rel => exact ⟨n + 1, x, by omega, by go_num, rfl, Nat.lt_of_le_of_lt hx9 HP.out, hpr.trans h2, by rw [← HX.out]; exact HN⟩
        case measure => simp [intOf]; omega
    · obtain rfl : n = l.length / 2 := by omega
      have hge : decide ((((l.length / 2 : Nat)) : Int) < (l.length : Int) / 2) = false := decide_eq_false (by omega)
      have HV : dgL (unitsOf l) 0 = some v := by rw [H.out, List.drop_eq_nil_of_le (by rw [unitsOf_len]; omega), dgL]
      have HM := Lib.hid (E.out.trans (congrArg (fun o => Option.bind o _) HV))
      have K := fun w => rkey_any (v : Int) w (by omega) (by omega)
      clear H HV E hv hlt hn
      by_cases hm : 2147483647 < v
      · have HN := Lib.hid (HM.out.trans (by simp only [Option.bind_some]; rw [if_pos (.inl hm)]))
        have d1 : decide ((2147483647 : Int) < (v : Int)) = true := decide_eq_true (by omega)
        clear hm HM
        go_wp2
        go_ret
        exact ⟨by rw [HN.out]; rfl, hpr⟩
      · have d1 : decide ((2147483647 : Int) < (v : Int)) = false := decide_eq_false (by omega)
        by_cases hk : keyOf (v : Int) = l
        · have HN := Lib.hid (HM.out.trans (by simp only [Option.bind_some]; rw [if_neg (by rintro (h | h); exact hm h; exact h hk)]))
          have n1 : (keyOf (v : Int) != l) = false := by rw [hk]; simp
          have n2 : (keyOf (v : Int) == l) = true := by rw [hk]; simp
          generalize keyOf (v : Int) = kk at *
          clear hm HM hk
          go_wp2_with fail
          refine (K _).mono ?_
          rintro e w2 ⟨rfl, h2⟩
          go_wp2
          go_ret
          exact ⟨by rw [HN.out]; rfl, hpr.trans h2⟩
        · have HN := Lib.hid (HM.out.trans (by simp only [Option.bind_some]; rw [if_pos (.inr hk)]))
          have n1 : (keyOf (v : Int) != l) = true := by simpa using hk
          have n2 : (keyOf (v : Int) == l) = false := by simpa using hk
          generalize keyOf (v : Int) = kk at *
          clear hm HM hk
          go_wp2_with fail
          refine (K _).mono ?_
          rintro e w2 ⟨rfl, h2⟩
          go_wp2
          go_ret
          exact ⟨by rw [HN.out]; rfl, hpr.trans h2⟩
end Go.Proofs.YtfophnmnehpenaaDoor
