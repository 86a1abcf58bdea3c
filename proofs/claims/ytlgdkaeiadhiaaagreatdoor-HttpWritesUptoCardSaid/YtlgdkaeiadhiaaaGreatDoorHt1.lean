/- The tests on all bytes of a text: token, text, target, both. -/
import Derived.Test.YtlgdkaeiadhiaaaGreatDoorHtPure4
import Derived.Test.YtlgdkaeiadhiaaaGreatDoorShelf
import Derived.Deep.CutRange
import Derived.Lib.Bytealg
namespace Go.Proofs.YtlgdkaeiadhiaaaGreatDoor
open Go Go.RowKit
set_option linter.all false
theorem beq_no {l m : Bytes} (h : ¬ l = m) : (l == m) = false := by simpa using h
theorem isEmpty_no {l : Bytes} (h : ¬ l = []) : List.isEmpty l = false := by cases l <;> simp_all
def ixB (more : Bytes) (b : Nat) : Int := Lib.indexByte more ((b : Int).toNat.toUInt8)
def tmarks : Bytes := [33, 35, 36, 37, 38, 39, 42, 43, 45, 46, 94, 95, 96, 124, 126]
theorem ixb_any (more : Bytes) (b : Nat) (w : World) : Calls Tryz.prog 61 #[.string ⟨more.toArray⟩, .int .u8 b] w fun e w' => e = .returned (.int .i64 (ixB more b)) ∧ w = w' := by
  refine (Tryz.strings_IndexByte _ _ _).mono ?_
  rintro e w' ⟨rfl, rfl⟩
  exact ⟨rfl, rfl⟩
theorem tmarks_iff (b : Nat) (hb : b < 256) : 0 ≤ ixB tmarks b ↔ marksB b = true := by
  have H : ∀ b : Fin 256, 0 ≤ ixB tmarks b.val ↔ marksB b.val = true := by decide +kernel
  exact H ⟨b, hb⟩
theorem or32u (b : Nat) (hb : b < 256) : bits .or .u8 (b : Int) 32 = ((b ||| 32 : Nat) : Int) := by
  have H : ∀ b : Fin 256, bits .or .u8 (b.val : Int) 32 = ((b.val ||| 32 : Nat) : Int) := by decide +kernel
  exact H ⟨b, hb⟩
theorem or32_iff (b : Nat) (hb : b < 256) : (97 ≤ (b ||| 32) ∧ (b ||| 32) ≤ 122) ↔ ((97 ≤ b ∧ b ≤ 122) ∨ (65 ≤ b ∧ b ≤ 90)) := by
  have H : ∀ b : Fin 256, (97 ≤ (b.val ||| 32) ∧ (b.val ||| 32) ≤ 122) ↔ ((97 ≤ b.val ∧ b.val ≤ 122) ∨ (65 ≤ b.val ∧ b.val ≤ 90)) := by decide +kernel
  exact H ⟨b, hb⟩
theorem all_step {p : UInt8 → Bool} {l : Bytes} {n : Nat} (hn : n < l.length) (h : ∀ j, j < n → p (l.getD j 0) = true) (hp : p (l.getD n 0) = true) : ∀ j, j < n + 1 → p (l.getD j 0) = true := fun j hj => by
  by_cases e : j = n
  · rw [e]; exact hp
  · exact h j (by omega)
theorem all_of {p : UInt8 → Bool} {l : Bytes} (h : ∀ j, j < l.length → p (l.getD j 0) = true) : l.all p = true := by
  rw [List.all_eq_true]
  intro x hx
  obtain ⟨j, hj, rfl⟩ := List.getElem_of_mem hx
  have := h j hj
  simpa [List.getD_eq_getElem?_getD, hj] using this
theorem all_not {p : UInt8 → Bool} {l : Bytes} {n : Nat} (hn : n < l.length) (h : p (l.getD n 0) = false) : l.all p = false := by
  rw [Bool.eq_false_iff]
  intro ha
  have := List.all_eq_true.1 ha (l.getD n 0) (by simp [List.getD_eq_getElem?_getD, hn])
  rw [h] at this
  cases this
theorem ret_bool {a b : Bool} (h : a = b) : Ending.returned (.bool a) = .returned (.bool b) := by rw [h]
theorem head8 {l : Bytes} (h : l ≠ []) : decide (l.head? = some 47) = decide (by8 l 0 = 47) := by
  cases l with
  | nil => exact absurd rfl h
  | cons c r =>
    rw [Bool.eq_iff_iff]
    simp only [decide_eq_true_eq, List.head?_cons, Option.some.injEq]
    exact UInt8.toNat_inj.symm
theorem slash_head (l : Bytes) : Lib.hasPrefix l [47] = decide (l.head? = some 47) := by
  unfold Lib.hasPrefix
  rw [Bool.eq_iff_iff]
  cases l with
  | nil => simp
  | cons c r =>
    simp [List.isPrefixOf]
    exact eq_comm
set_option maxRecDepth 100000 in
set_option maxHeartbeats 4000000 in
theorem token_any (l : Bytes) (w : World) (hs : l.length ≤ 140737488351232) :
    Calls Tryz.prog 36 #[.string ⟨l.toArray⟩] w fun e w' => e = .returned (.bool (okToken l)) ∧ w = w' := by
  go_enter Tryz.func36, Tryz.ntmps36
  go_wp2
  go_loop [7] (fun k => ∃ n : Nat, n ≤ l.length ∧ k = .int .i64 n ∧ Hid (∀ j, j < n → tokenB (l.getD j 0).toNat = true)) (fun k => l.length + 1 - (intOf k).toNat)
  case atStart => exact ⟨0, by omega, rfl, Lib.hid (fun j h => by omega)⟩
  case round =>
    obtain ⟨n, hn, rfl, H⟩ := hrel
    by_cases hlt : n < l.length
    · have hlt' : (n : Int) < l.length := by omega
      have cb := by8_lt l n
      have q := or32u _ cb
      have M := Lib.hid (or32_iff _ cb)
      have T := Lib.hid (tmarks_iff _ cb)
      have IX := fun w => ixb_any tmarks (by8 l n) w
      go_upto_region 5 with (fail)
      go_cut [4, 7, 34] from 9 to 35 (fun c4 k t wx => ∃ b, k = .int .i64 n ∧ c4 = .int .u8 (by8 l n) ∧ t = .bool b ∧ wx = w ∧ Hid ((!tokenB (by8 l n)) = b))
      case first =>
        go_wp2_with (go_at_call 61; refine (IX _).mono ?_; rintro e w' ⟨rfl, rfl⟩)
        all_goals
          go_meet
          refine ⟨_, rfl, rfl, rfl, rfl, Lib.hid ?_⟩
          rw [Bool.eq_iff_iff]
          have := M.out
          have := T.out
          generalize ixB tmarks (by8 l n) = z at *
          cases hm : marksB (by8 l n) <;> rw [hm] at this <;> simp [tokenB, alnumB, hm] at * <;> omega
      case rest =>
        obtain ⟨b, rfl, rfl, rfl, rfl, HB⟩ := hcut
        have hp := HB.out
        rcases b with _ | _
        case false =>
          have HN := Lib.hid (all_step (p := fun c => tokenB c.toNat) hlt H.out (show tokenB (by8 l n) = true by simpa using hp))
          clear hp HB
          go_wp2
          go_round
          case rel => exact ⟨n + 1, by omega, by go_num, HN⟩
          case measure => simp [intOf]; omega
        case true =>
          have HN := Lib.hid (all_not (p := fun c => tokenB c.toNat) hlt (show tokenB (by8 l n) = false by simpa using hp))
          clear hp HB
          go_wp2
          go_ret
          exact ⟨by unfold okToken; rw [HN.out]; rfl, rfl⟩
    · obtain rfl : n = l.length := by omega
      have HN := Lib.hid (all_of (p := fun c => tokenB c.toNat) H.out)
      have hlt' : decide (l.length < l.length) = false := by simp
      by_cases h0 : l = []
      · subst h0
        go_wp2
        go_ret
        exact ⟨by unfold okToken; simp, rfl⟩
      · have q0 := isEmpty_no h0
        have hpos := List.length_pos_iff.2 h0
        go_wp2
        all_goals
          go_ret
          refine ⟨?_, rfl⟩
          unfold okToken
          rw [HN.out, decide_eq_true hpos]
          simp
          omega
set_option maxRecDepth 100000 in
set_option maxHeartbeats 4000000 in
theorem text_any (l : Bytes) (w : World) (hs : l.length ≤ 140737488351232) :
    Calls Tryz.prog 37 #[.string ⟨l.toArray⟩] w fun e w' => e = .returned (.bool (okText l)) ∧ w = w' := by
  go_enter Tryz.func37, Tryz.ntmps37
  go_wp2
  go_loop [6] (fun k => ∃ n : Nat, n ≤ l.length ∧ k = .int .i64 n ∧ Hid (∀ j, j < n → textB (l.getD j 0).toNat = true)) (fun k => l.length + 1 - (intOf k).toNat)
  case atStart => exact ⟨0, by omega, rfl, Lib.hid (fun j h => by omega)⟩
  case round =>
    obtain ⟨n, hn, rfl, H⟩ := hrel
    by_cases hlt : n < l.length
    · have hlt' : (n : Int) < l.length := by omega
      have cb := by8_lt l n
      go_upto_region 4 with (fail)
      go_cut [6, 24] from 8 to 25 (fun k t wx => ∃ b, k = .int .i64 n ∧ t = .bool b ∧ wx = w ∧ Hid ((!textB (by8 l n)) = b))
      case first =>
        go_wp2_with (fail)
        all_goals
          go_meet
          refine ⟨_, rfl, rfl, rfl, Lib.hid ?_⟩
          rw [Bool.eq_iff_iff]
          simp [textB]
          try omega
      case rest =>
        obtain ⟨b, rfl, rfl, rfl, HB⟩ := hcut
        have hp := HB.out
        rcases b with _ | _
        case false =>
          have HN := Lib.hid (all_step (p := fun c => textB c.toNat) hlt H.out (show textB (by8 l n) = true by simpa using hp))
          clear hp HB
          go_wp2
          go_round
          case rel => exact ⟨n + 1, by omega, by go_num, HN⟩
          case measure => simp [intOf]; omega
        case true =>
          have HN := Lib.hid (all_not (p := fun c => textB c.toNat) hlt (show textB (by8 l n) = false by simpa using hp))
          clear hp HB
          go_wp2
          go_ret
          exact ⟨by unfold okText; rw [HN.out]; rfl, rfl⟩
    · obtain rfl : n = l.length := by omega
      have HN := Lib.hid (all_of (p := fun c => textB c.toNat) H.out)
      have hlt' : decide (l.length < l.length) = false := by simp
      go_wp2
      go_ret
      exact ⟨by unfold okText; rw [HN.out]; rfl, rfl⟩
set_option maxRecDepth 100000 in
set_option maxHeartbeats 4000000 in
theorem target_any (l : Bytes) (w : World) (hs : l.length ≤ 140737488351232) :
    Calls Tryz.prog 40 #[.string ⟨l.toArray⟩] w fun e w' => e = .returned (.bool (okTarget l)) ∧ w = w' := by
  have hsl := slash_head l
  go_enter Tryz.func40, Tryz.ntmps40
  go_wp2
  go_loop [6] (fun k => ∃ n : Nat, n ≤ l.length ∧ k = .int .i64 n ∧ Hid (∀ j, j < n → targetB (l.getD j 0).toNat = true)) (fun k => l.length + 1 - (intOf k).toNat)
  case atStart => exact ⟨0, by omega, rfl, Lib.hid (fun j h => by omega)⟩
  case round =>
    obtain ⟨n, hn, rfl, H⟩ := hrel
    by_cases hlt : n < l.length
    · have hlt' : (n : Int) < l.length := by omega
      have cb := by8_lt l n
      go_upto_region 4 with (fail)
      go_cut [6, 18] from 8 to 19 (fun k t wx => ∃ b, k = .int .i64 n ∧ t = .bool b ∧ wx = w ∧ Hid ((!targetB (by8 l n)) = b))
      case first =>
        go_wp2_with (fail)
        all_goals
          go_meet
          refine ⟨_, rfl, rfl, rfl, Lib.hid ?_⟩
          rw [Bool.eq_iff_iff]
          simp [targetB]
          try omega
      case rest =>
        obtain ⟨b, rfl, rfl, rfl, HB⟩ := hcut
        have hp := HB.out
        rcases b with _ | _
        case false =>
          have HN := Lib.hid (all_step (p := fun c => targetB c.toNat) hlt H.out (show targetB (by8 l n) = true by simpa using hp))
          clear hp HB
          go_wp2
          go_round
          case rel => exact ⟨n + 1, by omega, by go_num, HN⟩
          case measure => simp [intOf]; omega
        case true =>
          have HN := Lib.hid (all_not (p := fun c => targetB c.toNat) hlt (show targetB (by8 l n) = false by simpa using hp))
          clear hp HB
          go_wp2
          go_ret
          exact ⟨by unfold okTarget; rw [HN.out]; rfl, rfl⟩
    · obtain rfl : n = l.length := by omega
      have HN := Lib.hid (all_of (p := fun c => targetB c.toNat) H.out)
      have hlt' : decide (l.length < l.length) = false := by simp
      have HS := Lib.hid hsl
      clear hsl
      by_cases h47 : l.head? = some 47
      focus
        have H47 := Lib.hid (show Lib.hasPrefix l [47] = true by rw [HS.out, decide_eq_true h47])
        have HP : ∀ w, Calls Tryz.prog 66 #[.string ⟨l.toArray⟩, .string ⟨#[47]⟩] w fun e w' => e = .returned (.bool true) ∧ w = w' := fun w => by
          refine (Tryz.strings_HasPrefix _ _ _).mono ?_
          rintro e w' ⟨rfl, rfl⟩
          exact ⟨by rw [show Lib.hasPrefix (ByteArray.mk l.toArray).data.toList (ByteArray.mk #[47]).data.toList = true from H47.out], rfl⟩
      rotate_left
      focus
        have H47 := Lib.hid (show Lib.hasPrefix l [47] = false by rw [HS.out, decide_eq_false h47])
        have HP : ∀ w, Calls Tryz.prog 66 #[.string ⟨l.toArray⟩, .string ⟨#[47]⟩] w fun e w' => e = .returned (.bool false) ∧ w = w' := fun w => by
          refine (Tryz.strings_HasPrefix _ _ _).mono ?_
          rintro e w' ⟨rfl, rfl⟩
          exact ⟨by rw [show Lib.hasPrefix (ByteArray.mk l.toArray).data.toList (ByteArray.mk #[47]).data.toList = false from H47.out], rfl⟩
      all_goals
        have HH := Lib.hid h47
        clear h47 H47
        go_wp2_with (go_at_call 66; refine (HP _).mono ?_; rintro e w' ⟨rfl, rfl⟩)
        go_ret
        refine ⟨?_, rfl⟩
        unfold okTarget
        rw [HN.out]
        simp [HH.out]
        try omega
set_option maxRecDepth 100000 in
set_option maxHeartbeats 4000000 in
theorem rtext_any (l : Bytes) (w : World) (hs : l.length ≤ 140737488351232) :
    Calls Tryz.prog 44 #[.string ⟨l.toArray⟩] w fun e w' => e = .returned (.bool (okText l)) ∧ w = w' := by
  go_enter Tryz.func44, Tryz.ntmps44
  go_wp2
  go_loop [3] (fun k => ∃ n : Nat, n ≤ l.length ∧ k = .int .i64 n ∧ Hid (∀ j, j < n → textB (l.getD j 0).toNat = true)) (fun k => l.length + 1 - (intOf k).toNat)
  case atStart => exact ⟨0, by omega, rfl, Lib.hid (fun j h => by omega)⟩
  case round =>
    obtain ⟨n, hn, rfl, H⟩ := hrel
    by_cases hlt : n < l.length
    · have hlt' : (n : Int) < l.length := by omega
      have cb := by8_lt l n
      go_upto_region 4 with (fail)
      go_cut [3, 25] from 8 to 25 (fun k t wx => ∃ b, k = .int .i64 n ∧ t = .bool b ∧ wx = w ∧ Hid ((!textB (by8 l n)) = b))
      case first =>
        go_wp2_with (fail)
        all_goals
          go_meet
          refine ⟨_, rfl, rfl, rfl, Lib.hid ?_⟩
          rw [Bool.eq_iff_iff]
          simp [textB]
          try omega
      case rest =>
        obtain ⟨b, rfl, rfl, rfl, HB⟩ := hcut
        have hp := HB.out
        rcases b with _ | _
        case false =>
          have HN := Lib.hid (all_step (p := fun c => textB c.toNat) hlt H.out (show textB (by8 l n) = true by simpa using hp))
          clear hp HB
          go_wp2
          go_round
          case rel => exact ⟨n + 1, by omega, by go_num, HN⟩
          case measure => simp [intOf]; omega
        case true =>
          have HN := Lib.hid (all_not (p := fun c => textB c.toNat) hlt (show textB (by8 l n) = false by simpa using hp))
          clear hp HB
          go_wp2
          go_ret
          exact ⟨by unfold okText; rw [HN.out]; rfl, rfl⟩
    · obtain rfl : n = l.length := by omega
      have HN := Lib.hid (all_of (p := fun c => textB c.toNat) H.out)
      have hlt' : decide (l.length < l.length) = false := by simp
      go_wp2
      go_ret
      exact ⟨by unfold okText; rw [HN.out]; rfl, rfl⟩
set_option maxRecDepth 100000 in
set_option maxHeartbeats 4000000 in
theorem rtarget_any (l : Bytes) (w : World) (hs : l.length ≤ 140737488351232) :
    Calls Tryz.prog 48 #[.string ⟨l.toArray⟩] w fun e w' => e = .returned (.bool (okTarget l)) ∧ w = w' := by
  go_enter Tryz.func48, Tryz.ntmps48
  go_wp2
  go_loop [3] (fun k => ∃ n : Nat, n ≤ l.length ∧ k = .int .i64 n ∧ Hid (∀ j, j < n → targetB (l.getD j 0).toNat = true)) (fun k => l.length + 1 - (intOf k).toNat)
  case atStart => exact ⟨0, by omega, rfl, Lib.hid (fun j h => by omega)⟩
  case round =>
    obtain ⟨n, hn, rfl, H⟩ := hrel
    by_cases hlt : n < l.length
    · have hlt' : (n : Int) < l.length := by omega
      have cb := by8_lt l n
      go_upto_region 4 with (fail)
      go_cut [3, 19] from 8 to 19 (fun k t wx => ∃ b, k = .int .i64 n ∧ t = .bool b ∧ wx = w ∧ Hid ((!targetB (by8 l n)) = b))
      case first =>
        go_wp2_with (fail)
        all_goals
          go_meet
          refine ⟨_, rfl, rfl, rfl, Lib.hid ?_⟩
          rw [Bool.eq_iff_iff]
          simp [targetB]
          try omega
      case rest =>
        obtain ⟨b, rfl, rfl, rfl, HB⟩ := hcut
        have hp := HB.out
        rcases b with _ | _
        case false =>
          have HN := Lib.hid (all_step (p := fun c => targetB c.toNat) hlt H.out (show targetB (by8 l n) = true by simpa using hp))
          clear hp HB
          go_wp2
          go_round
          case rel => exact ⟨n + 1, by omega, by go_num, HN⟩
          case measure => simp [intOf]; omega
        case true =>
          have HN := Lib.hid (all_not (p := fun c => targetB c.toNat) hlt (show targetB (by8 l n) = false by simpa using hp))
          clear hp HB
          go_wp2
          go_ret
          exact ⟨by unfold okTarget; rw [HN.out]; rfl, rfl⟩
    · obtain rfl : n = l.length := by omega
      have HN := Lib.hid (all_of (p := fun c => targetB c.toNat) H.out)
      have hlt' : decide (l.length < l.length) = false := by simp
      by_cases h0 : l = []
      · subst h0
        go_wp2
        go_ret
        exact ⟨by unfold okTarget; simp, rfl⟩
      · have p1 := List.length_pos_iff.2 h0
        have p0 : (0 : Int) < l.length := by omega
        have HC := Lib.hid (head8 h0)
        clear h0
        go_wp2
        all_goals
          go_ret
          refine ⟨ret_bool ?_, rfl⟩
          unfold okTarget
          rw [HN.out, HC.out, Bool.eq_iff_iff]
          simp
          try omega
end Go.Proofs.YtlgdkaeiadhiaaaGreatDoor
