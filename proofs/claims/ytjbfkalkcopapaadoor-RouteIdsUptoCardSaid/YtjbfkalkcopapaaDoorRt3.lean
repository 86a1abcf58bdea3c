/- Paths; a target of the internal processor. -/
import Derived.Test.YtjbfkalkcopapaaDoorRt2
namespace Go.Proofs.YtjbfkalkcopapaaDoor
open Go Go.RowKit
set_option linter.all false
theorem hasPrefix_iff (l p : Bytes) : Lib.hasPrefix l p = decide (p <+: l) := by
  unfold Lib.hasPrefix
  rw [Bool.eq_iff_iff]
  simp [List.isPrefixOf_iff_prefix]
theorem trimPrefix_yes {l p : Bytes} (h : p <+: l) : Lib.trimPrefix l p = l.drop p.length := by
  unfold Lib.trimPrefix
  rw [if_pos (by rw [hasPrefix_iff]; exact decide_eq_true h)]
theorem trimPrefix_no {l p : Bytes} (h : ¬ p <+: l) : Lib.trimPrefix l p = l := by
  unfold Lib.trimPrefix
  rw [if_neg (by rw [hasPrefix_iff]; simpa using h)]
theorem slash_head (l : Bytes) : Lib.hasPrefix l [47] = decide (l.head? = some 47) := by
  rw [hasPrefix_iff]
  cases l with
  | nil => rfl
  | cons c r =>
    rw [Bool.eq_iff_iff]
    simp only [decide_eq_true_eq, List.head?_cons, Option.some.injEq]
    constructor
    · rintro ⟨q, hq⟩
      simp at hq
      exact hq.1.symm
    · rintro rfl
      exact ⟨r, rfl⟩
set_option maxRecDepth 100000 in
set_option maxHeartbeats 4000000 in
theorem path_any (l : Bytes) (w : World) (hs : l.length ≤ 140737488351232) :
    Calls Tryd.prog 30 #[.string ⟨l.toArray⟩] w fun e w' => e = .returned (.bool (okPath l)) ∧ w = w' := by
  have hsl := slash_head l
  go_enter Tryd.func30, Tryd.ntmps30
  go_wp2
  go_loop [6] (fun k => ∃ n : Nat, n ≤ l.length ∧ k = .int .i64 n ∧ Hid (∀ j, j < n → pathB (l.getD j 0).toNat = true)) (fun k => l.length + 1 - (intOf k).toNat)
  case atStart => exact ⟨0, by omega, rfl, Lib.hid (fun j h => by omega)⟩
  case round =>
    obtain ⟨n, hn, rfl, H⟩ := hrel
    by_cases hlt : n < l.length
    · have hlt' : (n : Int) < l.length := by omega
      have cb := by8_lt l n
      go_upto_region 4 with (fail)
      go_cut [6, 24] from 6 to 25 (fun k t wx => ∃ b, k = .int .i64 n ∧ t = .bool b ∧ wx = w ∧ Hid ((!pathB (by8 l n)) = b))
      case first =>
        go_wp2
        all_goals
          go_meet
          refine ⟨_, rfl, rfl, rfl, Lib.hid ?_⟩
          rw [Bool.eq_iff_iff]
          simp [pathB]
          omega
      case rest =>
        obtain ⟨b, rfl, rfl, rfl, HB⟩ := hcut
        have hp := HB.out
        rcases b with _ | _
        case false =>
          have HN := Lib.hid (all_step (p := fun c => pathB c.toNat) hlt H.out (show pathB (by8 l n) = true by simpa using hp))
          clear hp HB
          go_wp2
          go_round
          case rel => exact ⟨n + 1, by omega, by go_num, HN⟩
          case measure => simp [intOf]; omega
        case true =>
          have HN := Lib.hid (all_not (p := fun c => pathB c.toNat) hlt (show pathB (by8 l n) = false by simpa using hp))
          clear hp HB
          go_wp2
          go_ret
          exact ⟨by unfold okPath; rw [HN.out]; rfl, rfl⟩
    · obtain rfl : n = l.length := by omega
      have HN := Lib.hid (all_of (p := fun c => pathB c.toNat) H.out)
      have HS := Lib.hid hsl
      clear hsl
      go_wp2_with (go_at_call 41; refine (Tryd.strings_HasPrefix _ _ _).mono ?_; rintro e w' ⟨rfl, rfl⟩)
      go_ret
      refine ⟨?_, rfl⟩
      unfold okPath
      rw [HN.out, ← HS.out]
      rfl
/-- an address by value -/
def adrV (a : Adr) : Value := .agg #[.int .i64 a.kind, .string ⟨a.id.toArray⟩, .string ⟨a.host.toArray⟩, .int .i64 a.port, .string ⟨a.path.toArray⟩]
theorem cut_pre (l p : Bytes) (w : World) : Calls Tryd.prog 24 #[.string ⟨l.toArray⟩, .string ⟨p.toArray⟩] w fun e w' => e = .returned (.tuple #[.string ⟨(Lib.trimPrefix l p).toArray⟩, .bool (decide (p <+: l))]) ∧ w = w' := by
  rw [← hasPrefix_iff]
  refine (Tryd.strings_CutPrefix _ _ _).mono ?_
  rintro e w' ⟨rfl, rfl⟩
  exact ⟨rfl, rfl⟩
end Go.Proofs.YtjbfkalkcopapaaDoor
