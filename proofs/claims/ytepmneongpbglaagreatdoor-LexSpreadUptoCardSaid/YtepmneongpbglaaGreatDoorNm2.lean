/- Layer 4: the bytes of a set; the number of a text that is written by sixteens. -/
import Derived.Test.YtepmneongpbglaaGreatDoorNm1
import Derived.Test.YtepmneongpbglaaGreatDoorRfX
import Derived.Lib.IndexMore
namespace Go.Proofs.YtepmneongpbglaaGreatDoor
open Go Go.RowKit
set_option linter.all false
namespace Nm
theorem idx_has (c : UInt8) : ∀ s : List UInt8, decide (0 ≤ Lib.indexByte s c) = s.contains c
  | [] => rfl
  | b :: r => by
    have ih := idx_has c r
    rw [Lib.indexByte]
    by_cases h : b = c
    · subst h; simp
    · have hb : (b == c) = false := by simpa using h
      rw [hb]
      have hge := Lib.indexByte_ge r c
      have hbc : (c == b) = false := by rw [beq_eq_false_iff_ne]; exact fun e => h e.symm
      rw [List.contains_cons, hbc, Bool.false_or, ← ih]
      simp only [Bool.false_eq_true, if_false]
      by_cases hm : Lib.indexByte r c = -1
      · rw [hm]; rfl
      · have hm2 : (Lib.indexByte r c == -1) = false := by rw [beq_eq_false_iff_ne]; exact hm
        rw [hm2]
        simp only [Bool.false_eq_true, if_false]
        rw [decide_eq_decide]
        omega
set_option maxRecDepth 100000 in
set_option maxHeartbeats 4000000 in
theorem run_any (s set : List UInt8) (w : World) (hs : s.length ≤ 1000000000) : Calls Tryz.prog 57 #[.string ⟨s.toArray⟩, .string ⟨set.toArray⟩] w fun e w' => e = .returned (.int .i64 (runGo set s : Int)) ∧ w = w' := by
  go_enter Tryz.func57, Tryz.ntmps57
  go_wp2
  go_loopw [5] (fun x wr => ∃ n : Nat, x = .int .i64 (n : Int) ∧ n ≤ s.length ∧ Hid (wr = w) ∧ Hid (runGo set s = n + runGo set (s.drop n))) (fun x _ => s.length + 1 - (intOf x).toNat)
  case atStart => exact ⟨0, rfl, by omega, Lib.hid rfl, Lib.hid (by simp)⟩
  case round =>
    obtain ⟨n, rfl, hn, hw, H⟩ := hrel
    by_cases hlt : n < s.length
    · have hlt' : (n : Int) < s.length := by omega
      have wn : IntKind.i64.wrap ((n : Int) + 1) = (n : Int) + 1 := IntWalk.i64_in _ (by omega)
      have hb := by8_lt s n
      have hd : s.drop n = UInt8.ofNat (by8 s n) :: s.drop (n + 1) := by
        rw [List.drop_eq_getElem_cons hlt]
        congr 1
        simp [by8, List.getD_eq_getElem?_getD, List.getElem?_eq_getElem hlt]
      have HS := Lib.hid (show runGo set s = if set.contains (UInt8.ofNat (by8 s n)) then n + (runGo set (s.drop (n + 1)) + 1) else n by
        rw [H.out, hd, runGo]; split <;> rfl)
      have IB : ∀ w, Calls Tryz.prog 71 #[.string ⟨set.toArray⟩, .int .u8 (by8 s n : Int)] w fun e w' => e = .returned (.int .i64 (Lib.indexByte set (UInt8.ofNat (by8 s n)))) ∧ w = w' := fun w =>
        (Tryz.strings_IndexByte ⟨set.toArray⟩ (by8 s n : Int) w).mono (by rintro e w' ⟨rfl, rfl⟩; exact ⟨rfl, rfl⟩)
      have hge := Lib.indexByte_ge set (UInt8.ofNat (by8 s n))
      have hh := idx_has (UInt8.ofNat (by8 s n)) set
      clear H hd
      generalize Lib.indexByte set (UInt8.ofNat (by8 s n)) = k at *
      rcases hc : set.contains (UInt8.ofNat (by8 s n)) with _ | _
      · rw [hc] at hh HS
        have HS2 := Lib.hid (show runGo set s = n from HS.out)
        clear HS hc
        go_wp2_with fail
        refine (IB _).mono ?_
        rintro e w1 ⟨rfl, rfl⟩
        go_wp2
        go_ret
        rw [HS2.out]
        exact ⟨rfl, hw.out.symm⟩
      · rw [hc] at hh HS
        have HS2 := Lib.hid (show runGo set s = (n + 1) + runGo set (s.drop (n + 1)) by have := HS.out; simp only [if_true] at this; omega)
        clear HS hc
        go_wp2_with fail
        refine (IB _).mono ?_
        rintro e w1 ⟨rfl, rfl⟩
        go_wp2
        go_roundw
        case rel => exact ⟨n + 1, by go_num, by omega, hw, HS2⟩
        case measure => simp [intOf]; omega
    · have hlt' : ¬ (n : Int) < s.length := by omega
      have HS2 := Lib.hid (show runGo set s = n by rw [H.out, List.drop_of_length_le (by omega)]; rfl)
      clear H
      go_wp2
      go_ret
      rw [HS2.out]
      exact ⟨rfl, hw.out.symm⟩
set_option maxRecDepth 100000 in
set_option maxHeartbeats 4000000 in
theorem number_hex {l s : List UInt8} {x : Nat} {w : World} (hl : l.length ≤ 1000000) (hp : plain l = some s) (hx : isHex s = true)
    (PF : ∀ w', Pur w w' → Calls Tryz.prog 58 #[.string ⟨(s ++ [112, 48]).toArray⟩, .int .i64 64] w' fun e w'' => e = .returned (.tuple #[.float .f64 x, .nilIface]) ∧ Pur w' w'') :
    Calls Tryz.prog 45 #[.string ⟨l.toArray⟩] w fun e w' => e = .returned (.float .f64 x) ∧ Pur w w' := by
  have PL := plain_any l w (by omega)
  have hsl := plain_len hp
  rw [hp] at PL
  unfold PlainPost at PL
  unfold isHex at hx
  rw [decide_eq_true_eq] at hx
  obtain ⟨x1, x2, x3, x4⟩ := hx
  have x1' : (2 : Int) < s.length := by omega
  have x5 : (1 : Int) < s.length := by omega
  have x6 : (0 : Int) < s.length := by omega
  have hb1 := by8_lt s 1
  have ho : bits .or .u8 (by8 s 1 : Int) 32 = 120 := by
    have := u8_or_nat (by8 s 1) 32 hb1 (by decide)
    rw [show ((32 : Nat) : Int) = 32 from rfl] at this
    rw [this]
    rcases x3 with h | h <;> rw [h] <;> rfl
  have d0 : ((by8 s 0 : Int) == 48) = true := by rw [beq_iff_eq]; omega
  have hne : ¬ s = [] := by intro e; rw [e] at x1; simp at x1
  have hne2 : s.isEmpty = false := by cases s with | nil => exact absurd rfl hne | cons _ _ => rfl
  have hsub : sub s 2 s.length = s.drop 2 := by unfold sub; rw [List.take_of_length_le (by rw [List.length_drop]; omega)]
  have RU := fun w => run_any (sub s 2 s.length) hexes w (by rw [hsub, List.length_drop]; omega)
  rw [hsub, x4, show ((s.length - 2 : Nat) : Int) = (s.length : Int) - 2 by omega, ← hsub] at RU
  have w2 : IntKind.i64.wrap ((s.length : Int) - 2) = (s.length : Int) - 2 := IntWalk.i64_in _ (by omega)
  have z1 : ¬ 9223372036854775807 < s.length + 2 := by omega
  have z2 : ¬ 9223372036854775807 < s.length + 1 + 1 := by omega
  clear hp hsl x2 x3 x4 hsub
  go_enter Tryz.func45, Tryz.ntmps45
  go_wp2_with fail
  refine PL.mono ?_
  rintro e w1 ⟨rfl, p1⟩
  have PF1 := PF w1 p1
  clear PF PL
  go_wp2_with fail
  refine (RU _).mono ?_
  rintro e w2 ⟨rfl, rfl⟩
  go_wp2_with fail
  refine PF1.mono ?_
  rintro e w2 ⟨rfl, p2⟩
  go_wp2
  go_ret
  exact ⟨rfl, p1.trans p2⟩
end Nm
end Go.Proofs.YtepmneongpbglaaGreatDoor
