/- What Length, At and Cut of the layer utf compute, for every text. -/
import Derived.Test.YtipnlgcicdnhdaaDoorChecked
import Derived.Test.YtipnlgcicdnhdaaDoorUtfPure
namespace Go.Proofs.YtipnlgcicdnhdaaDoor
open Go Go.RowKit
theorem length_any (l : List UInt8) (w : World) (hs : l.length ≤ 9223372036854775807) :
    Calls Tryd.prog 18 #[.string ⟨l.toArray⟩] w fun e w' => e = .returned (.int .i64 (l.length / 2 : Nat)) ∧ w = w' := by
  go_enter Tryd.func18, Tryd.ntmps18
  go_wp2
  go_ret
  exact ⟨rfl, rfl⟩
theorem at_in (l : List UInt8) (i : Nat) (w : World) (hs : l.length ≤ 9223372036854775807) (h : i < l.length / 2) :
    Calls Tryd.prog 19 #[.string ⟨l.toArray⟩, .int .i64 i] w fun e w' => e = .returned (.tuple #[.int .i64 (at16 l i), .bool true]) ∧ Pur w w' := by
  have b2 : 2 * (i : Int) + 1 < l.length := by omega
  have n0 : (i : Int) < (l.length : Int) / 2 := by omega
  have hw : IntKind.i64.wrap (2 * (i:Int)) = 2 * (i:Int) := IntWalk.i64_in _ (by omega)
  have hw1 : IntKind.i64.wrap (2 * (i:Int) + 1) = 2 * (i:Int) + 1 := IntWalk.i64_in _ (by omega)
  have l1 := by8_lt l (2*i)
  have l2 := by8_lt l (2*i+1)
  have H := Lib.hid (or_join 8 (by8 l (2*i) * 256) (by8 l (2*i+1)) (by omega) (by omega) (by omega) (by omega))
  go_enter Tryd.func19, Tryd.ntmps19
  go_wp2
  go_quiet (fail)
  go_wp2
  go_ret2
  refine ⟨?_, (Pur.refl w).drewN nq⟩
  show Ending.returned (Value.tuple #[.int .i64 (bits BinOp.or IntKind.i64 (((by8 l (2*i) : Nat) : Int) * 256) ((by8 l (2*i+1) : Nat) : Int)), .bool true]) = _
  have h' := H.out
  rw [Int.natCast_mul] at h'
  rw [show ((256 : Nat) : Int) = 256 from rfl] at h'
  rw [h']
  rfl
theorem at_out (l : List UInt8) (i : Int) (w : World) (hs : l.length ≤ 9223372036854775807) (h : i < 0 ∨ (l.length / 2 : Nat) ≤ i) :
    Calls Tryd.prog 19 #[.string ⟨l.toArray⟩, .int .i64 i] w fun e w' => e = .returned (.tuple #[.int .i64 0, .bool false]) ∧ Pur w w' := by
  by_cases h0 : i < 0
  · go_enter Tryd.func19, Tryd.ntmps19
    go_wp2
    go_ret2
    exact ⟨rfl, Pur.refl w⟩
  · have h1 : (l.length / 2 : Nat) ≤ i := by omega
    clear h
    go_enter Tryd.func19, Tryd.ntmps19
    go_wp2
    go_ret2
    exact ⟨rfl, Pur.refl w⟩
theorem cut_any (l : List UInt8) (i j : Int) (w : World) (hs : l.length ≤ 9223372036854775807) :
    Calls Tryd.prog 20 #[.string ⟨l.toArray⟩, .int .i64 i, .int .i64 j] w fun e w' => e = .returned (.string ⟨(cutU l i j).toArray⟩) ∧ Pur w w' := by
  by_cases h : min (max i 0) ((l.length : Int) / 2) < min (max j 0) ((l.length : Int) / 2)
  · have hw : IntKind.i64.wrap (2 * min (max i 0) ((l.length : Int) / 2)) = 2 * min (max i 0) ((l.length : Int) / 2) := IntWalk.i64_in _ (by omega)
    have hw' : IntKind.i64.wrap (2 * min (max j 0) ((l.length : Int) / 2)) = 2 * min (max j 0) ((l.length : Int) / 2) := IntWalk.i64_in _ (by omega)
    go_enter Tryd.func20, Tryd.ntmps20
    go_wp2_with (go_at_call 18; refine (length_any _ _ hs).mono ?_; rintro e w' ⟨rfl, rfl⟩)
    go_ret
    refine ⟨?_, Pur.refl w⟩
    show Ending.returned (Value.string ⟨(sub l (2 * min (max i 0) ((l.length : Int) / 2)).toNat (2 * min (max j 0) ((l.length : Int) / 2)).toNat).toArray⟩) = _
    rw [cutU, show (2 * min (max i 0) ((l.length : Int) / 2)).toNat = 2 * clamp i (l.length / 2) by unfold clamp; omega, show (2 * min (max j 0) ((l.length : Int) / 2)).toNat = 2 * clamp j (l.length / 2) by unfold clamp; omega]
  · have h' : min (max j 0) ((l.length : Int) / 2) ≤ min (max i 0) ((l.length : Int) / 2) := by omega
    go_enter Tryd.func20, Tryd.ntmps20
    go_wp2_with (go_at_call 18; refine (length_any _ _ hs).mono ?_; rintro e w' ⟨rfl, rfl⟩)
    go_ret
    refine ⟨?_, Pur.refl w⟩
    show Ending.returned (Value.string ⟨([] : List UInt8).toArray⟩) = _
    rw [cutU, sub_nil l (by unfold clamp; omega)]
end Go.Proofs.YtipnlgcicdnhdaaDoor
