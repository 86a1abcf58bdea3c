/- The table of powers, and that near multiples are equal ones, for every power that is asked: seen in the kernel. -/
import Derived.Test.YtciigfaojmpoiaaGreatDoorP10
import Derived.Test.YtciigfaojmpoiaaGreatDoorRb1
namespace Go.Proofs.YtciigfaojmpoiaaGreatDoor
open Go Go.RowKit
set_option linter.all false
namespace Rb
open Us Ft P10
set_option exponentiation.threshold 20000
/-- 10^p * 2^(127 - lg p) as a fraction -/
def nt (p : Int) : Nat := 10 ^ p.toNat * 2 ^ (127 - lg p).toNat
def dt (p : Int) : Nat := 10 ^ (-p).toNat * 2 ^ (lg p - 127).toNat
/-- the table's number -/
def pm (p : Int) : Nat := Hi0 (p + 348).toNat * 18446744073709551616 - Lo0 (p + 348).toNat
def tabB (i : Nat) : Bool := let p : Int := (i : Int) - 345
  decide ((pm p - 1) * dt p < nt p) && decide (nt p ≤ pm p * dt p) && decide (1 ≤ pm p)
set_option maxRecDepth 100000 in
theorem tab_ok : (List.range 676).all tabB = true := by decide +kernel
/-- the ways of formatting: p and s by the exponent E -/
def sOf (E p : Int) : Nat := (-(E + lg p + 3)).toNat
def fmtB (i : Nat) : Bool := let E : Int := (i : Int) - 1137
  let p := -l10 (E + (zO E : Int)); let p2 := -skw (E + 11)
  cert (512 * nt p) (2 ^ (sOf E p + 128) * dt p) (2 ^ 55) (63 + sOf E p) && (decide (E ≤ -1085) || cert (512 * nt p2) (2 ^ (sOf E p2 + 128) * dt p2) (2 ^ 55) (63 + sOf E p2))
set_option maxRecDepth 100000 in
theorem fmt_a : (List.range 700).all fmtB = true := by decide +kernel
set_option maxRecDepth 100000 in
theorem fmt_b : (List.range 700).all (fun j => fmtB (700 + j)) = true := by decide +kernel
set_option maxRecDepth 100000 in
theorem fmt_c : (List.range 698).all (fun j => fmtB (1400 + j)) = true := by decide +kernel
theorem fmt_ok : (List.range 2098).all fmtB = true := by
  rw [List.all_eq_true]
  intro i hi
  rw [List.mem_range] at hi
  by_cases h1 : i < 700
  · exact List.all_eq_true.1 fmt_a i (List.mem_range.2 h1)
  · by_cases h2 : i < 1400
    · have := List.all_eq_true.1 fmt_b (i - 700) (List.mem_range.2 (by omega))
      rwa [show 700 + (i - 700) = i by omega] at this
    · have := List.all_eq_true.1 fmt_c (i - 1400) (List.mem_range.2 (by omega))
      rwa [show 1400 + (i - 1400) = i by omega] at this
/-- the ways of reading -/
def rdC (c i : Nat) : Bool := let P : Int := (i : Int) - 345
  cert (nt P * 2 ^ (c + 4)) (2 ^ 136 * dt P) (2 ^ 57) 71
def rdB (i : Nat) : Bool := (List.range 7).all fun c => rdC c i
set_option maxRecDepth 100000 in
theorem rd_0 : (List.range 676).all (rdC 0) = true := by decide +kernel
set_option maxRecDepth 100000 in
theorem rd_1 : (List.range 676).all (rdC 1) = true := by decide +kernel
set_option maxRecDepth 100000 in
theorem rd_2 : (List.range 676).all (rdC 2) = true := by decide +kernel
set_option maxRecDepth 100000 in
theorem rd_3 : (List.range 676).all (rdC 3) = true := by decide +kernel
set_option maxRecDepth 100000 in
theorem rd_4 : (List.range 676).all (rdC 4) = true := by decide +kernel
set_option maxRecDepth 100000 in
theorem rd_5 : (List.range 676).all (rdC 5) = true := by decide +kernel
set_option maxRecDepth 100000 in
theorem rd_6 : (List.range 676).all (rdC 6) = true := by decide +kernel
theorem rd_ok : (List.range 676).all rdB = true := by
  rw [List.all_eq_true]
  intro i hi
  unfold rdB
  rw [List.all_eq_true]
  intro c hc
  rw [List.mem_range] at hc
  match c, hc with
  | 0, _ => exact List.all_eq_true.1 rd_0 i hi
  | 1, _ => exact List.all_eq_true.1 rd_1 i hi
  | 2, _ => exact List.all_eq_true.1 rd_2 i hi
  | 3, _ => exact List.all_eq_true.1 rd_3 i hi
  | 4, _ => exact List.all_eq_true.1 rd_4 i hi
  | 5, _ => exact List.all_eq_true.1 rd_5 i hi
  | 6, _ => exact List.all_eq_true.1 rd_6 i hi
end Rb
end Go.Proofs.YtciigfaojmpoiaaGreatDoor
