/- A name or a value as it is written: the document's Coded. -/
import Derived.Test.YthfoidodcfdpnaaDoorFld9
namespace Go.Proofs.YthfoidodcfdpnaaDoor
open Go Go.RowKit
theorem sub_one (l : Bytes) (n : Nat) (h : n < l.length) : sub l n (n + 1) = [l.getD n 0] := by
  unfold sub
  rw [drop_at l n h, show n + 1 - n = 1 by omega]
  rfl
set_option maxRecDepth 100000 in
set_option maxHeartbeats 4000000 in
theorem rcoded_any (l : Bytes) (w : World) (hs : l.length ≤ 46912496118442) :
    Calls Tryd.prog 23 #[.string ⟨l.toArray⟩] w fun e w' => e = .returned (.string ⟨(coded l).toArray⟩) ∧ Pur w w' := by
  go_enter Tryd.func23, Tryd.ntmps23
  go_wp2
  go_loopw [3, 4] (fun o k wr => ∃ (n : Nat) (acc : Bytes), n ≤ l.length ∧ o = .string ⟨acc.toArray⟩ ∧ k = .int .i64 n ∧ acc.length ≤ 3 * n ∧ Pur w wr ∧ Hid (coded l = acc ++ coded (l.drop n))) (fun _ k _ => l.length + 1 - (intOf k).toNat)
  case atStart => exact ⟨0, [], by omega, rfl, rfl, by simp, Pur.refl w, Lib.hid (by simp)⟩
  case round =>
    obtain ⟨n, acc, hn, rfl, rfl, hacc, hpr, H⟩ := hrel
    by_cases hlt : n < l.length
    · have hlt' : (n : Int) < l.length := by omega
      have cb := by8_lt l n
      go_upto_region 6 with (fail)
      go_cut [5, 52] from 6 to 79 (fun c t wx => ∃ b, c = .int .u8 (by8 l n) ∧ t = .bool b ∧ wx = wr ∧ Hid (plainB (by8 l n) = b))
      case first =>
        go_wp2
        all_goals
          go_meet
          refine ⟨_, ?_, rfl, rfl, Lib.hid ?_⟩
          first | rfl | (congr 1; simp at *; omega)
          rw [Bool.eq_iff_iff]
          simp [plainB]
          omega
      case rest =>
        obtain ⟨b, rfl, rfl, rfl, HB⟩ := hcut
        have hp := HB.out
        rcases b with _ | _
        case true =>
          have HS := Lib.hid (coded_step hlt H.out (codedB_plain _ hp))
          have s1 := sub_one l n hlt
          have w1 : IntKind.i64.wrap ((n : Int) + 1) = (n : Int) + 1 := IntWalk.i64_in _ (by omega)
          have t1 : ((n : Int) + 1).toNat = n + 1 := by omega
          have b1 : (n : Int) + 1 ≤ l.length := by omega
          clear hp HB
          go_wp2
          go_roundw
          case rel => exact ⟨n + 1, acc ++ [l.getD n 0], by omega, by simp [hlt], by go_num, by simp; omega, hpr, HS⟩
          case measure => simp [intOf]; omega
        case false =>
          by_cases hs : by8 l n = 32
          · have h32 : ((by8 l n : Int) == 32) = true := by simp; omega
            have HS := Lib.hid (coded_step hlt H.out (codedB_space _ hs))
            clear hs hp HB
            go_wp2
            go_roundw
            case rel => exact ⟨n + 1, acc ++ [43], by omega, rfl, by go_num, by simp; omega, hpr, HS⟩
            case measure => simp [intOf]; omega
          · have h32 : ((by8 l n : Int) == 32) = false := by simp; omega
            have HS := Lib.hid (coded_step hlt H.out (codedB_other _ hp hs))
            have w1 : IntKind.u8.wrap ((by8 l n : Int) / 16 + 1) = (by8 l n : Int) / 16 + 1 := IntWalk.u8_in _ (by omega)
            have w2 : IntKind.u8.wrap ((by8 l n : Int) % 16 + 1) = (by8 l n : Int) % 16 + 1 := IntWalk.u8_in _ (by omega)
            have w3 : IntKind.u8.wrap ((by8 l n : Int) / 16) = (by8 l n : Int) / 16 := IntWalk.u8_in _ (by omega)
            have b1 : (0 : Int) ≤ (by8 l n : Int) / 16 := by omega
            have b2 : (by8 l n : Int) / 16 + 1 ≤ 16 := by omega
            have b3 : (0 : Int) ≤ (by8 l n : Int) / 16 + 1 := by omega
            have b4 : (by8 l n : Int) / 16 ≤ (by8 l n : Int) / 16 + 1 := by omega
            have t1 : ((by8 l n : Int) / 16).toNat = by8 l n / 16 := by omega
            have t2 : ((by8 l n : Int) / 16 + 1).toNat = by8 l n / 16 + 1 := by omega
            have t3 : ((by8 l n : Int) % 16 + 1).toNat = by8 l n % 16 + 1 := by omega
            have e16 : (by8 l n : Int).tmod 16 = (by8 l n : Int) % 16 := Int.tmod_eq_emod_of_nonneg (by omega)
            have t4 : ((by8 l n : Int) % 16).toNat = by8 l n % 16 := by omega
            have b5 : (by8 l n : Int) % 16 + 1 ≤ 16 := by omega
            have b6 : (0 : Int) ≤ (by8 l n : Int) % 16 + 1 := by omega
            have b7 : (0 : Int) ≤ (by8 l n : Int) % 16 := by omega
            have b8 : (by8 l n : Int) % 16 ≤ (by8 l n : Int) % 16 + 1 := by omega
            have s1 : sub [48, 49, 50, 51, 52, 53, 54, 55, 56, 57, 65, 66, 67, 68, 69, 70] (by8 l n / 16) (by8 l n / 16 + 1) = [hexD (by8 l n / 16)] := hexUp_cut _ (by omega)
            have s2 : sub [48, 49, 50, 51, 52, 53, 54, 55, 56, 57, 65, 66, 67, 68, 69, 70] (by8 l n % 16) (by8 l n % 16 + 1) = [hexD (by8 l n % 16)] := hexUp_cut _ (by omega)
            have z1 : ¬ 9223372036854775807 < acc.length + 1 := by omega
            have z2 : ¬ 9223372036854775807 < acc.length + 1 + 1 := by omega
            have z3 : ¬ 9223372036854775807 < acc.length + 1 + 1 + 1 := by omega
            clear hs hp HB
            go_wp2
            refine wp_region_pur (by kernel_rfl) (by kernel_rfl) ?_
            repeat (quiet_step (fail))
            refine wpQuiet_nil ?_
            intro wq hq
            go_wp2
            go_roundw
            case rel => exact ⟨n + 1, acc ++ [37, hexD (by8 l n / 16), hexD (by8 l n % 16)], by omega, by simp, by go_num, by simp; omega, hpr.trans hq, HS⟩
            case measure => simp [intOf]; omega
    · have HS := Lib.hid (coded_end (by omega) H.out)
      have hlt' : (l.length : Int) ≤ n := by omega
      go_wp2
      go_ret
      refine ⟨?_, hpr⟩
      rw [HS.out]
      rfl
end Go.Proofs.YthfoidodcfdpnaaDoor
