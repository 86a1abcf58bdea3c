/- The digits of base 16: the layer's and the document's. -/
import Derived.Test.YthfoidodcfdpnaaDoorFldPure
import Derived.Test.YthfoidodcfdpnaaDoorStrBuild
namespace Go.Proofs.YthfoidodcfdpnaaDoor
open Go Go.RowKit
def hexDigits : Bytes := [48, 49, 50, 51, 52, 53, 54, 55, 56, 57, 97, 98, 99, 100, 101, 102]
theorem hex_low (b : Nat) (hb : b < 256) (h : b < 65 ∨ 70 < b) : Lib.indexByte hexDigits ((b : Int).toNat.toUInt8) = hexV b := by
  have H : ∀ b : Fin 256, (b.val < 65 ∨ 70 < b.val) → Lib.indexByte hexDigits (b.val.toUInt8) = hexV b.val := by decide +kernel
  exact H ⟨b, hb⟩ h
theorem hex_great (b : Nat) (h0 : 65 ≤ b) (h : b ≤ 70) : Lib.indexByte hexDigits (((b + 32 : Nat) : Int).toNat.toUInt8) = hexV b := by
  have H : ∀ b : Fin 71, 65 ≤ b.val → Lib.indexByte hexDigits ((b.val + 32).toUInt8) = hexV b.val := by decide +kernel
  exact H ⟨b, by omega⟩ h0
theorem or32 (b : Nat) (h0 : 65 ≤ b) (h : b ≤ 70) : bits .or .u8 (b : Int) 32 = ((b + 32 : Nat) : Int) := by
  have H : ∀ b : Fin 71, 65 ≤ b.val → bits .or .u8 (b.val : Int) 32 = ((b.val + 32 : Nat) : Int) := by decide +kernel
  exact H ⟨b, by omega⟩ h0
theorem sixteen_any (b : Nat) (w : World) (hb : b < 256) :
    Calls Tryd.prog 27 #[.int .u8 b] w fun e w' => e = .returned (.int .i64 (hexV b)) ∧ w = w' := by
  by_cases h : 65 ≤ b ∧ b ≤ 70
  · have d1 : (65 : Int) ≤ b := by omega
    have d2 : (b : Int) ≤ 70 := by omega
    have q1 := or32 b h.1 h.2
    have q2 := hex_great b h.1 h.2
    clear h
    go_enter Tryd.func27, Tryd.ntmps27
    go_wp2_with (go_at_call 30; refine (Tryd.strings_IndexByte _ _ _).mono ?_)
    go_ret
    exact ⟨by rw [← q2]; rfl, rfl⟩
  · have q2 := hex_low b hb (by omega)
    by_cases h1 : (b : Int) < 65
    · clear h
      go_enter Tryd.func27, Tryd.ntmps27
      go_wp2_with (go_at_call 30; refine (Tryd.strings_IndexByte _ _ _).mono ?_)
      go_ret
      exact ⟨by rw [← q2]; rfl, rfl⟩
    · have d1 : (65 : Int) ≤ b := by omega
      have d2 : (70 : Int) < b := by omega
      clear h h1
      go_enter Tryd.func27, Tryd.ntmps27
      go_wp2_with (go_at_call 30; refine (Tryd.strings_IndexByte _ _ _).mono ?_)
      go_ret
      exact ⟨by rw [← q2]; rfl, rfl⟩
theorem rsixteen_any (b : Nat) (w : World) (hb : b < 256) :
    Calls Tryd.prog 29 #[.int .u8 b] w fun e w' => e = .returned (.int .i64 (hexV b)) ∧ w = w' := by
  by_cases h0 : b ≤ 47
  · have q : hexV b = -1 := by
      unfold hexV
      repeat' split
      all_goals omega
    have a0 : decide ((48 : Int) ≤ b) = false := decide_eq_false (by omega)
    have a1 : decide ((b : Int) ≤ 57) = true := decide_eq_true (by omega)
    have a2 : decide ((97 : Int) ≤ b) = false := decide_eq_false (by omega)
    have a3 : decide ((b : Int) ≤ 102) = true := decide_eq_true (by omega)
    have a4 : decide ((65 : Int) ≤ b) = false := decide_eq_false (by omega)
    have a5 : decide ((b : Int) ≤ 70) = true := decide_eq_true (by omega)
    clear h0
    go_enter Tryd.func29, Tryd.ntmps29
    go_wp2
    go_ret
    exact ⟨by rw [q]; rfl, rfl⟩
  by_cases h1 : b ≤ 57
  · have q : hexV b = (b : Int) - 48 := by
      unfold hexV
      repeat' split
      all_goals omega
    have a0 : decide ((48 : Int) ≤ b) = true := decide_eq_true (by omega)
    have a1 : decide ((b : Int) ≤ 57) = true := decide_eq_true (by omega)
    have a2 : decide ((97 : Int) ≤ b) = false := decide_eq_false (by omega)
    have a3 : decide ((b : Int) ≤ 102) = true := decide_eq_true (by omega)
    have a4 : decide ((65 : Int) ≤ b) = false := decide_eq_false (by omega)
    have a5 : decide ((b : Int) ≤ 70) = true := decide_eq_true (by omega)
    have u0 : (0 : Int) ≤ (b : Int) - 48 := by omega
    have u1 : (b : Int) - 48 < 256 := by omega
    clear h0 h1
    go_enter Tryd.func29, Tryd.ntmps29
    go_wp2
    go_ret
    exact ⟨by rw [q]; rfl, rfl⟩
  by_cases h2 : b ≤ 64
  · have q : hexV b = -1 := by
      unfold hexV
      repeat' split
      all_goals omega
    have a0 : decide ((48 : Int) ≤ b) = true := decide_eq_true (by omega)
    have a1 : decide ((b : Int) ≤ 57) = false := decide_eq_false (by omega)
    have a2 : decide ((97 : Int) ≤ b) = false := decide_eq_false (by omega)
    have a3 : decide ((b : Int) ≤ 102) = true := decide_eq_true (by omega)
    have a4 : decide ((65 : Int) ≤ b) = false := decide_eq_false (by omega)
    have a5 : decide ((b : Int) ≤ 70) = true := decide_eq_true (by omega)
    clear h0 h1 h2
    go_enter Tryd.func29, Tryd.ntmps29
    go_wp2
    go_ret
    exact ⟨by rw [q]; rfl, rfl⟩
  by_cases h3 : b ≤ 70
  · have q : hexV b = (b : Int) - 65 + 10 := by
      unfold hexV
      repeat' split
      all_goals omega
    have a0 : decide ((48 : Int) ≤ b) = true := decide_eq_true (by omega)
    have a1 : decide ((b : Int) ≤ 57) = false := decide_eq_false (by omega)
    have a2 : decide ((97 : Int) ≤ b) = false := decide_eq_false (by omega)
    have a3 : decide ((b : Int) ≤ 102) = true := decide_eq_true (by omega)
    have a4 : decide ((65 : Int) ≤ b) = true := decide_eq_true (by omega)
    have a5 : decide ((b : Int) ≤ 70) = true := decide_eq_true (by omega)
    have u0 : (0 : Int) ≤ (b : Int) - 65 := by omega
    have u1 : (b : Int) - 65 < 256 := by omega
    clear h0 h1 h2 h3
    go_enter Tryd.func29, Tryd.ntmps29
    go_wp2
    go_ret
    exact ⟨by rw [q]; rfl, rfl⟩
  by_cases h4 : b ≤ 96
  · have q : hexV b = -1 := by
      unfold hexV
      repeat' split
      all_goals omega
    have a0 : decide ((48 : Int) ≤ b) = true := decide_eq_true (by omega)
    have a1 : decide ((b : Int) ≤ 57) = false := decide_eq_false (by omega)
    have a2 : decide ((97 : Int) ≤ b) = false := decide_eq_false (by omega)
    have a3 : decide ((b : Int) ≤ 102) = true := decide_eq_true (by omega)
    have a4 : decide ((65 : Int) ≤ b) = true := decide_eq_true (by omega)
    have a5 : decide ((b : Int) ≤ 70) = false := decide_eq_false (by omega)
    clear h0 h1 h2 h3 h4
    go_enter Tryd.func29, Tryd.ntmps29
    go_wp2
    go_ret
    exact ⟨by rw [q]; rfl, rfl⟩
  by_cases h5 : b ≤ 102
  · have q : hexV b = (b : Int) - 97 + 10 := by
      unfold hexV
      repeat' split
      all_goals omega
    have a0 : decide ((48 : Int) ≤ b) = true := decide_eq_true (by omega)
    have a1 : decide ((b : Int) ≤ 57) = false := decide_eq_false (by omega)
    have a2 : decide ((97 : Int) ≤ b) = true := decide_eq_true (by omega)
    have a3 : decide ((b : Int) ≤ 102) = true := decide_eq_true (by omega)
    have a4 : decide ((65 : Int) ≤ b) = true := decide_eq_true (by omega)
    have a5 : decide ((b : Int) ≤ 70) = false := decide_eq_false (by omega)
    have u0 : (0 : Int) ≤ (b : Int) - 97 := by omega
    have u1 : (b : Int) - 97 < 256 := by omega
    clear h0 h1 h2 h3 h4 h5
    go_enter Tryd.func29, Tryd.ntmps29
    go_wp2
    go_ret
    exact ⟨by rw [q]; rfl, rfl⟩
  have q : hexV b = -1 := by
    unfold hexV
    repeat' split
    all_goals omega
  have a0 : decide ((48 : Int) ≤ b) = true := decide_eq_true (by omega)
  have a1 : decide ((b : Int) ≤ 57) = false := decide_eq_false (by omega)
  have a2 : decide ((97 : Int) ≤ b) = true := decide_eq_true (by omega)
  have a3 : decide ((b : Int) ≤ 102) = false := decide_eq_false (by omega)
  have a4 : decide ((65 : Int) ≤ b) = true := decide_eq_true (by omega)
  have a5 : decide ((b : Int) ≤ 70) = false := decide_eq_false (by omega)
  clear h0 h1 h2 h3 h4 h5
  go_enter Tryd.func29, Tryd.ntmps29
  go_wp2
  go_ret
  exact ⟨by rw [q]; rfl, rfl⟩
end Go.Proofs.YthfoidodcfdpnaaDoor
