/- The document's ids, hosts, beginnings. -/
import Derived.Test.YtjbfkalkcopapaaDoorRt3
import Derived.Deep.DeepCutAuto
namespace Go.Proofs.YtjbfkalkcopapaaDoor
open Go Go.RowKit
set_option linter.all false
theorem ret_bool {a b : Bool} (h : a = b) : Ending.returned (.bool a) = .returned (.bool b) := by rw [h]
set_option maxRecDepth 100000 in
theorem rplain_any (b : Nat) (w : World) (_ : b < 256) : Calls Tryd.prog 32 #[.int .u8 b] w fun e w' => e = .returned (.bool (alnumB b)) ∧ w = w' := by
  go_enter Tryd.func32, Tryd.ntmps32
  go_wp2
  all_goals
    go_ret
    refine ⟨ret_bool ?_, rfl⟩
    rw [Bool.eq_iff_iff]
    simp [alnumB]
    try omega
set_option maxRecDepth 100000 in
set_option maxHeartbeats 4000000 in
theorem rid_any (l : Bytes) (w : World) (hs : l.length ≤ 140737488351232) :
    Calls Tryd.prog 21 #[.string ⟨l.toArray⟩] w fun e w' => e = .returned (.bool (okId l)) ∧ w = w' := by
  go_enter Tryd.func21, Tryd.ntmps21
  go_wp2
  go_loop [3] (fun k => ∃ n : Nat, n ≤ l.length ∧ k = .int .i64 n ∧ Hid (∀ j, j < n → idB (l.getD j 0).toNat = true)) (fun k => l.length + 1 - (intOf k).toNat)
  case atStart => exact ⟨0, by omega, rfl, Lib.hid (fun j h => by omega)⟩
  case round =>
    obtain ⟨n, hn, rfl, H⟩ := hrel
    by_cases hlt : n < l.length
    · have hlt' : (n : Int) < l.length := by omega
      have cb := by8_lt l n
      have P1 := fun w => rplain_any (by8 l n) w cb
      go_upto_region 5 with (fail)
      rcases hal : alnumB (by8 l n) with _ | _ <;> rw [hal] at P1
      all_goals
        go_cut [3, 4, 36] from 5 to 36 (fun k c t wx => ∃ b, k = .int .i64 n ∧ c = .int .u8 (by8 l n) ∧ t = .bool b ∧ wx = w ∧ Hid ((!idB (by8 l n)) = b))
        case first =>
          go_wp2_with (go_at_call 32; refine (P1 _).mono ?_; rintro e w' ⟨rfl, rfl⟩)
          all_goals
            go_meet
            refine ⟨_, rfl, ?_, rfl, rfl, Lib.hid ?_⟩
            first | rfl | (congr 1; simp at *; omega)
            rw [Bool.eq_iff_iff]
            simp [idB, hal]
            try omega
        case rest =>
          obtain ⟨b, rfl, rfl, rfl, rfl, HB⟩ := hcut
          have hp := HB.out
          rcases b with _ | _
          case false =>
            have HN := Lib.hid (all_step (p := fun c => idB c.toNat) hlt H.out (show idB (by8 l n) = true by simpa using hp))
            clear hp HB hal
            go_wp2
            go_round
            case rel => exact ⟨n + 1, by omega, by go_num, HN⟩
            case measure => simp [intOf]; omega
          case true =>
            have HN := Lib.hid (all_not (p := fun c => idB c.toNat) hlt (show idB (by8 l n) = false by simpa using hp))
            clear hp HB hal
            go_wp2
            go_ret
            exact ⟨by unfold okId; rw [HN.out]; rfl, rfl⟩
    · obtain rfl : n = l.length := by omega
      have HN := Lib.hid (all_of (p := fun c => idB c.toNat) H.out)
      have hlt' : (l.length : Int) ≤ l.length := by omega
      by_cases h0 : l.length = 0
      · have d0 : decide ((0 : Int) < l.length) = false := decide_eq_false (by omega)
        go_wp2
        go_ret
        refine ⟨?_, rfl⟩
        unfold okId
        rw [decide_eq_false (show ¬ 0 < l.length by omega)]
        simp
      · have d0 : decide ((0 : Int) < l.length) = true := decide_eq_true (by omega)
        go_wp2
        go_ret
        refine ⟨?_, rfl⟩
        unfold okId
        rw [HN.out, decide_eq_true (show 0 < l.length by omega)]
        simp
        try omega
set_option maxRecDepth 100000 in
set_option maxHeartbeats 4000000 in
theorem rhost_any (l : Bytes) (w : World) (hs : l.length ≤ 140737488351232) :
    Calls Tryd.prog 31 #[.string ⟨l.toArray⟩] w fun e w' => e = .returned (.bool (okHost l)) ∧ w = w' := by
  go_enter Tryd.func31, Tryd.ntmps31
  go_wp2
  go_loop [3] (fun k => ∃ n : Nat, n ≤ l.length ∧ k = .int .i64 n ∧ Hid (∀ j, j < n → hostB (l.getD j 0).toNat = true)) (fun k => l.length + 1 - (intOf k).toNat)
  case atStart => exact ⟨0, by omega, rfl, Lib.hid (fun j h => by omega)⟩
  case round =>
    obtain ⟨n, hn, rfl, H⟩ := hrel
    by_cases hlt : n < l.length
    · have hlt' : (n : Int) < l.length := by omega
      have cb := by8_lt l n
      have P1 := fun w => rplain_any (by8 l n) w cb
      go_upto_region 4 with (fail)
      rcases hal : alnumB (by8 l n) with _ | _ <;> rw [hal] at P1
      all_goals
        go_cut [3, 26] from 4 to 26 (fun k  t wx => ∃ b, k = .int .i64 n ∧  t = .bool b ∧ wx = w ∧ Hid ((!hostB (by8 l n)) = b))
        case first =>
          go_wp2_with (go_at_call 32; refine (P1 _).mono ?_; rintro e w' ⟨rfl, rfl⟩)
          all_goals
            go_meet
            refine ⟨_, rfl,  rfl, rfl, Lib.hid ?_⟩
            rw [Bool.eq_iff_iff]
            simp [hostB, hal]
            try omega
        case rest =>
          obtain ⟨b, rfl,  rfl, rfl, HB⟩ := hcut
          have hp := HB.out
          rcases b with _ | _
          case false =>
            have HN := Lib.hid (all_step (p := fun c => hostB c.toNat) hlt H.out (show hostB (by8 l n) = true by simpa using hp))
            clear hp HB hal
            go_wp2
            go_round
            case rel => exact ⟨n + 1, by omega, by go_num, HN⟩
            case measure => simp [intOf]; omega
          case true =>
            have HN := Lib.hid (all_not (p := fun c => hostB c.toNat) hlt (show hostB (by8 l n) = false by simpa using hp))
            clear hp HB hal
            go_wp2
            go_ret
            exact ⟨by unfold okHost; rw [HN.out]; rfl, rfl⟩
    · obtain rfl : n = l.length := by omega
      have HN := Lib.hid (all_of (p := fun c => hostB c.toNat) H.out)
      have hlt' : (l.length : Int) ≤ l.length := by omega
      by_cases h0 : l.length = 0
      · have d0 : decide ((0 : Int) < l.length) = false := decide_eq_false (by omega)
        go_wp2
        go_ret
        refine ⟨?_, rfl⟩
        unfold okHost
        rw [decide_eq_false (show ¬ 0 < l.length by omega)]
        simp
      · have d0 : decide ((0 : Int) < l.length) = true := decide_eq_true (by omega)
        go_wp2
        go_ret
        refine ⟨?_, rfl⟩
        unfold okHost
        rw [HN.out, decide_eq_true (show 0 < l.length by omega)]
        simp
        try omega
theorem begins_any (l p : Bytes) (w : World) (hs : l.length ≤ 140737488351232) :
    Calls Tryd.prog 20 #[.string ⟨l.toArray⟩, .string ⟨p.toArray⟩] w fun e w' => e = .returned (.bool (decide (p <+: l))) ∧ w = w' := by
  by_cases h : p.length ≤ l.length
  · have h' : (p.length : Int) ≤ l.length := by omega
    have e : decide (p <+: l) = (sub l 0 p.length == p) := by
      rw [Bool.eq_iff_iff]
      simp only [decide_eq_true_eq, beq_iff_eq, sub, List.drop_zero, Nat.sub_zero]
      constructor
      · rintro ⟨q, rfl⟩; simp
      · intro e; rw [← e]; exact List.take_prefix _ _
    rw [e]
    clear e
    go_enter Tryd.func20, Tryd.ntmps20
    go_wp2
    go_ret
    exact ⟨rfl, rfl⟩
  · have d : decide (p <+: l) = false := decide_eq_false (fun q => h q.length_le)
    rw [d]
    have h' : decide ((p.length : Int) ≤ l.length) = false := decide_eq_false (by omega)
    clear d
    go_enter Tryd.func20, Tryd.ntmps20
    go_wp2
    go_ret
    exact ⟨rfl, rfl⟩
end Go.Proofs.YtjbfkalkcopapaaDoor
