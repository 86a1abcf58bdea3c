/- ParseFloat at a number written by sixteens (small and whole). -/
import Derived.Test.YtepmneongpbglaaGreatDoorRf2
import Derived.Test.YtepmneongpbglaaGreatDoorRf3
namespace Go.Proofs.YtepmneongpbglaaGreatDoor
open Go Go.RowKit
set_option linter.all false
namespace Rf
set_option maxRecDepth 100000 in
set_option maxHeartbeats 4000000 in
theorem special_no (l : List UInt8) (w : World) (h0 : 0 < l.length) (h1 : by8 l 0 ≠ 43) (h2 : by8 l 0 ≠ 45) (h3 : by8 l 0 ≠ 105) (h4 : by8 l 0 ≠ 73) (h5 : by8 l 0 ≠ 110) (h6 : by8 l 0 ≠ 78) :
    Calls Tryz.prog 87 #[.string ⟨l.toArray⟩] w fun e w' => e = .returned (.tuple #[.float .f64 0, .int .i64 0, .bool false]) ∧ w = w' := by
  have h0' : (0 : Int) < l.length := by omega
  have hne : ¬ l = [] := by intro e; rw [e] at h0; simp at h0
  have d1 : ((by8 l 0 : Int) == 43) = false := by rw [beq_eq_false_iff_ne]; omega
  have d2 : ((by8 l 0 : Int) == 45) = false := by rw [beq_eq_false_iff_ne]; omega
  have d3 : ((by8 l 0 : Int) == 105) = false := by rw [beq_eq_false_iff_ne]; omega
  have d4 : ((by8 l 0 : Int) == 73) = false := by rw [beq_eq_false_iff_ne]; omega
  have d5 : ((by8 l 0 : Int) == 110) = false := by rw [beq_eq_false_iff_ne]; omega
  have d6 : ((by8 l 0 : Int) == 78) = false := by rw [beq_eq_false_iff_ne]; omega
  clear h1 h2 h3 h4 h5 h6
  go_enter Tryz.func87, Tryz.ntmps87
  go_wp2
  go_ret3
  exact ⟨rfl, rfl⟩
/-- what readFloat says of a number written by sixteens -/
def RF (l : List UInt8) (m : Nat) (p : Int) : Prop :=
  ∀ w, Calls Tryz.prog 88 #[.string ⟨l.toArray⟩] w fun e w' => e = .returned (.tuple #[.int .u64 (m : Int), .int .i64 p, .bool false, .bool false, .bool true, .int .i64 (l.length : Int), .bool true]) ∧ w = w'
/-- the bits of m * 2^p -/
def bitsOf (m : Nat) (p : Int) : Nat := (up 64 m (p + 52)).1 / 4 % 4503599627370496 + ((up 64 m (p + 52)).2 + 1025).toNat * 4503599627370496
structure Small (m : Nat) (p : Int) : Prop where
  sm : m < 18446744073709551616
  q0 : 0 ≤ p
  q1 : p ≤ 900
  u4 : (up 64 m (p + 52)).1 % 4 = 0
  u5 : 18014398509481984 ≤ (up 64 m (p + 52)).1
  u6 : (up 64 m (p + 52)).1 < 36028797018963968
set_option maxRecDepth 100000 in
set_option maxHeartbeats 4000000 in
theorem atof_hex {l : List UInt8} {m : Nat} {p : Int} {w : World} (hR : RF l m p) (hF : F64 w) (hs : Small m p) (hl : l.length ≤ 1000000) (h0 : 0 < l.length) (h48 : by8 l 0 = 48) :
    Calls Tryz.prog 83 #[.string ⟨l.toArray⟩] w fun e w' => e = .returned (.tuple #[.float .f64 (bitsOf m p), .int .i64 (l.length : Int), .nilIface]) ∧ Pur w w' := by
  have SP := fun w => special_no l w h0 (by omega) (by omega) (by omega) (by omega) (by omega) (by omega)
  have HX := fun s w (h : F64 w) => hex_any s m p w h hs.sm hs.q0 hs.q1 hs.u4 hs.u5 hs.u6
  unfold RF at hR
  have HB := Lib.hid (show bitsOf m p = (up 64 m (p + 52)).1 / 4 % 4503599627370496 + ((up 64 m (p + 52)).2 + 1025).toNat * 4503599627370496 from rfl)
  generalize bitsOf m p = B at *
  have HX2 : ∀ s w, F64 w → Calls Tryz.prog 89 #[.string ⟨List.toArray s⟩, .pointer (some ⟨9, 0, none⟩), .int .u64 (m : Int), .int .i64 p, .bool false, .bool false] w fun e w' => e = .returned (.tuple #[.float .f64 B, .nilIface]) ∧ Pur w w' := fun s w h => by
    rw [HB.out]; exact HX s w h
  clear HX HB hs h48
  go_enter Tryz.func83, Tryz.ntmps83
  go_wp2_with fail
  refine (SP _).mono ?_
  rintro e w1 ⟨rfl, rfl⟩
  go_wp2_with fail
  refine (hR _).mono ?_
  rintro e w1 ⟨rfl, rfl⟩
  go_wp2_with fail
  refine (HX2 _ _ hF).mono ?_
  rintro e w1 ⟨rfl, p1⟩
  go_wp2
  go_ret3
  exact ⟨rfl, p1⟩
set_option maxRecDepth 100000 in
set_option maxHeartbeats 4000000 in
theorem parse_hex {l : List UInt8} {m : Nat} {p : Int} {w : World} (hR : RF l m p) (hF : F64 w) (hs : Small m p) (hl : l.length ≤ 1000000) (h0 : 0 < l.length) (h48 : by8 l 0 = 48) :
    Calls Tryz.prog 58 #[.string ⟨l.toArray⟩, .int .i64 64] w fun e w' => e = .returned (.tuple #[.float .f64 (bitsOf m p), .nilIface]) ∧ Pur w w' := by
  have A1 := atof_hex hR hF hs hl h0 h48
  have P1 : Calls Tryz.prog 77 #[.string ⟨l.toArray⟩, .int .i64 64] w fun e w' => e = .returned (.tuple #[.float .f64 (bitsOf m p), .int .i64 (l.length : Int), .nilIface]) ∧ Pur w w' := by
    clear hR hF hs h48
    generalize bitsOf m p = B at *
    go_enter Tryz.func77, Tryz.ntmps77
    go_wp2_with fail
    refine A1.mono ?_
    rintro e w1 ⟨rfl, p1⟩
    go_wp2
    go_ret3
    exact ⟨rfl, p1⟩
  have I1 : Calls Tryz.prog 72 #[.string ⟨l.toArray⟩, .int .i64 64] w fun e w' => e = .returned (.tuple #[.float .f64 (bitsOf m p), .nilIface]) ∧ Pur w w' := by
    clear hR hF hs h48 A1
    generalize bitsOf m p = B at *
    go_enter Tryz.func72, Tryz.ntmps72
    go_wp2_with fail
    refine P1.mono ?_
    rintro e w1 ⟨rfl, p1⟩
    go_wp2
    go_ret2
    exact ⟨rfl, p1⟩
  clear hR hF hs h48 A1 P1
  generalize bitsOf m p = B at *
  go_enter Tryz.func58, Tryz.ntmps58
  go_wp2_with fail
  refine I1.mono ?_
  rintro e w1 ⟨rfl, p1⟩
  go_wp2
  go_ret2
  exact ⟨rfl, p1⟩
/-- "0x1Fp0" -/
def l1F : List UInt8 := [48, 120, 49, 70, 112, 48]
theorem by1F : ∀ i, by8 l1F i ≠ 95 := by
  intro i
  rcases Nat.lt_or_ge i 6 with h | h
  · revert i; decide
  · have e : by8 l1F i = 0 := by
      unfold by8
      rw [List.getD_eq_getElem?_getD, List.getElem?_eq_none (show l1F.length ≤ i from h)]
      rfl
    rw [e]
    decide
theorem rf_1F : RF l1F 31 0 := by
  intro w
  have h := readFloat_hex l1F w (by decide) (by decide) by1F ?_ (by decide)
  · refine h.mono ?_
    rintro e w' h
    unfold RfPost at h
    exact h
  · unfold Whole
    refine ⟨by decide, .inr ⟨by decide, by decide, by decide, ?_⟩⟩
    intro k h1 h2
    have : k = 5 := by
      have a : exAt l1F (digs l1F (hexAt l1F (sgn l1F)) (from0 l1F)).i = 5 := by decide
      have b : l1F.length = 6 := rfl
      omega
    subst this
    decide
theorem small_1F : Small 31 0 := ⟨by decide, by decide, by decide, by decide, by decide, by decide⟩
theorem bits_1F : bitsOf 31 0 = 4629418941960159232 := by decide
end Rf
end Go.Proofs.YtepmneongpbglaaGreatDoor
