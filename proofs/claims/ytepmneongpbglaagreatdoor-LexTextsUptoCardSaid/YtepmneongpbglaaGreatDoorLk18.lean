/- Layer 5: a byte as two digits of sixteen. -/
import Derived.Test.YtepmneongpbglaaGreatDoorLu
import Derived.Test.YtepmneongpbglaaGreatDoorBlk
import Derived.Test.YtepmneongpbglaaGreatDoorLxPure2
namespace Go.Proofs.YtepmneongpbglaaGreatDoor
open Go Go.RowKit
set_option linter.all false
namespace Lx
theorem sub_dg (k : Nat) (h : k < 16) : sub dgs k (k + 1) = [dg k] := by
  revert k; decide
set_option maxRecDepth 100000 in
set_option maxHeartbeats 4000000 in
theorem hex_any (b : Nat) (w : World) (hb : b < 256) : Calls Tryz.prog 13 #[.int .u8 (b : Int)] w fun e w' => e = .returned (.string ⟨#[dg (b / 16), dg (b % 16)]⟩) ∧ Pur w w' := by
  obtain ⟨q, hq⟩ : ∃ q, b / 16 = q := ⟨_, rfl⟩
  obtain ⟨r, hr⟩ : ∃ r, b % 16 = r := ⟨_, rfl⟩
  have q16 : q < 16 := by omega
  have r16 : r < 16 := by omega
  have e1 : (b : Int) / 16 = (q : Int) := by omega
  have e2 : (b : Int) % 16 = (r : Int) := by omega
  have e3 : (b : Int).tdiv 16 = (q : Int) := by rw [Int.tdiv_eq_ediv_of_nonneg (by omega)]; exact e1
  have e4 : (b : Int).tmod 16 = (r : Int) := by rw [Int.tmod_eq_emod_of_nonneg (by omega)]; exact e2
  have w1 : IntKind.u8.wrap (q : Int) = (q : Int) := IntWalk.u8_in _ (by omega)
  have w2 : IntKind.u8.wrap ((q : Int) + 1) = (q : Int) + 1 := IntWalk.u8_in _ (by omega)
  have w3 : IntKind.u8.wrap ((r : Int) + 1) = (r : Int) + 1 := IntWalk.u8_in _ (by omega)
  have n1 : ((q : Int) + 1).toNat = q + 1 := by omega
  have n2 : ((r : Int) + 1).toNat = r + 1 := by omega
  have l1 : (q : Int) + 1 ≤ 16 := by omega
  have l2 : (r : Int) + 1 ≤ 16 := by omega
  have s1 := sub_dg q q16
  have s2 := sub_dg r r16
  unfold dgs at s1 s2
  rw [hq, hr]
  clear hq hr
  go_enter Tryz.func13, Tryz.ntmps13
  go_wp2
  refine wp_region_pur (by kernel_rfl) (by kernel_rfl) ?_
  repeat (go_big_quiet_step (fail))
  refine wpQuiet_nil ?_
  intro wq hq
  go_wp2
  go_ret
  exact ⟨rfl, hq⟩
end Lx
end Go.Proofs.YtepmneongpbglaaGreatDoor
