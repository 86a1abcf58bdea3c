/- awake, and the laws that lean on the contracts alone: UtfTurns, UtfNext. -/
import Derived.Test.YtipnlgcicdnhdaaDoorUtf7
namespace Go.Proofs.YtipnlgcicdnhdaaDoor
open Go Go.RowKit
theorem wideR_a : wideR [97, 240, 159, 152, 128] = ([0, 97, 216, 61, 222, 0], 0, 0) := by
  have c0 : chr [97, 240, 159, 152, 128] 0 = (97, 1) := by decide +kernel
  have c1 : chr [97, 240, 159, 152, 128] 1 = (128512, 4) := by decide +kernel
  have u0 : units 97 = [0, 97] := by decide +kernel
  have u1 : units 128512 = [216, 61, 222, 0] := by decide +kernel
  rw [wideR, wideGo, if_pos (by decide), c0]
  simp only
  rw [if_neg (by decide), u0, wideGo, if_pos (by decide), show (0 : Nat) + 1 = 1 from rfl, c1]
  simp only
  rw [if_neg (by decide), u1, wideGo, if_neg (by decide)]
  rfl
theorem wideR_b : wideR [97, 192, 128] = ([], 1, 10) := by
  have c0 : chr [97, 192, 128] 0 = (97, 1) := by decide +kernel
  have c1 : chr [97, 192, 128] 1 = (0, 0) := by decide +kernel
  rw [wideR, wideGo, if_pos (by decide), c0]
  simp only
  rw [if_neg (by decide), wideGo, if_pos (by decide), show (0 : Nat) + 1 = 1 from rfl, c1]
  simp only
  rw [if_pos trivial]
theorem narR_a : narR [0, 97, 216, 61, 222, 0] = ([97, 240, 159, 152, 128], 0) := by
  have c0 : nst [0, 97, 216, 61, 222, 0] 0 = (97, 1) := by decide +kernel
  have c1 : nst [0, 97, 216, 61, 222, 0] 1 = (128512, 2) := by decide +kernel
  have u0 : enc 97 = [97] := by decide +kernel
  have u1 : enc 128512 = [240, 159, 152, 128] := by decide +kernel
  rw [narR, if_neg (by decide), narGo, if_pos (by decide), c0]
  simp only
  rw [u0, narGo, if_pos (by decide), show (0 : Nat) + 1 = 1 from rfl, c1]
  simp only
  rw [u1, narGo, if_neg (by decide)]
  rfl
theorem awake_any (w : World) (hT : Lib.Utf8Tabs 0 1 w) :
    Calls Tryd.prog 11 #[] w fun e w' => e = .returned (.bool true) ∧ Pur w w' := by
  have A1 := Lib.hid (wide_any [97, 240, 159, 152, 128] w hT (by decide))
  rw [wideR_a] at A1
  go_enter Tryd.func11, Tryd.ntmps11
  go_wp2_with fail
  refine A1.out.mono ?_
  rintro e w1 ⟨rfl, hp1⟩
  have A2 := Lib.hid (narrow_any [0, 97, 216, 61, 222, 0] w1 (by decide))
  rw [narR_a] at A2
  go_wp2_with fail
  refine A2.out.mono ?_
  rintro e w2 ⟨rfl, hp2⟩
  have A3 := Lib.hid (wide_any [97, 192, 128] w2 (Utf8Tabs_below hT (hp1.trans hp2)) (by decide))
  rw [wideR_b] at A3
  go_wp2_with fail
  refine A3.out.mono ?_
  rintro e w3 ⟨rfl, hp3⟩
  go_wp2_with (go_at_call 18; refine (length_any _ _ (by decide)).mono ?_; rintro e w' ⟨rfl, rfl⟩)
  go_ret
  exact ⟨rfl, (hp1.trans hp2).trans hp3⟩
end Go.Proofs.YtipnlgcicdnhdaaDoor
