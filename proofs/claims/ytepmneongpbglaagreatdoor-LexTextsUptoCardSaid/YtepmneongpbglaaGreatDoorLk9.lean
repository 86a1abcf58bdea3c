/- Layer 5: words and names. -/
import Derived.Test.YtepmneongpbglaaGreatDoorLk3
import Derived.Lib.IndexMore
namespace Go.Proofs.YtepmneongpbglaaGreatDoor
open Go Go.RowKit
set_option linter.all false
namespace Lx
theorem has32 (c : UInt8) : ∀ s : List UInt8, decide (0 ≤ Lib.indexByte s c) = s.contains c
  | [] => rfl
  | b :: r => by
    have ih := has32 c r
    rw [Lib.indexByte]
    by_cases h : b = c
    · subst h; simp
    · have hb : (b == c) = false := by simpa using h
      rw [hb]
      have hge := Lib.indexByte_ge r c
      have hbc : (c == b) = false := by rw [beq_eq_false_iff_ne]; exact fun e => h e.symm
      rw [List.contains_cons, hbc, Bool.false_or, ← ih]
      simp only [Bool.false_eq_true, if_false]
      by_cases hm : Lib.indexByte r c = -1
      · rw [hm]; rfl
      · have hm2 : (Lib.indexByte r c == -1) = false := by rw [beq_eq_false_iff_ne]; exact hm
        rw [hm2]
        simp only [Bool.false_eq_true, if_false]
        rw [decide_eq_decide]
        omega
theorem has_idx (t l : List UInt8) : Lib.contains l t = (idx t l).isSome := by
  unfold Lib.contains
  rw [contains_idx]
  cases idx t l with
  | none => rfl
  | some k => simp [idxI]
set_option maxRecDepth 100000 in
set_option maxHeartbeats 4000000 in
theorem word_any (s : List UInt8) (w : World) (hT : LW w) (hs : s.length ≤ 1000000000) : Calls Tryz.prog 9 #[.string ⟨s.toArray⟩] w fun e w' => e = .returned (.bool (word s)) ∧ Pur w w' := by
  obtain ⟨m, hm⟩ := hT.mx
  have C1 := fun w => Tryz.strings_Contains_one ⟨s.toArray⟩ 32 w
  have C2 := Tryz.strings_Contains ⟨wordList.toArray⟩ ⟨(32 :: (s ++ [32])).toArray⟩ m w (by decide) hm
  have h1 : decide (0 ≤ Lib.indexByte s 32) = s.contains 32 := has32 32 s
  have h2 : Lib.contains wordList (32 :: (s ++ [32])) = (idx (32 :: (s ++ [32])) wordList).isSome := has_idx _ _
  have C1' : ∀ w, Calls Tryz.prog 17 #[.string ⟨s.toArray⟩, .string ⟨#[32]⟩] w fun e w' => e = .returned (.bool (s.contains 32)) ∧ w = w' := fun w => (C1 w).mono (by rintro e w' ⟨rfl, rfl⟩; exact ⟨by rw [← h1], rfl⟩)
  have C2' : Calls Tryz.prog 17 #[.string ⟨wordList.toArray⟩, .string ⟨(32 :: (s ++ [32])).toArray⟩] w fun e w' => e = .returned (.bool (idx (32 :: (s ++ [32])) wordList).isSome) ∧ w = w' := C2.mono (by rintro e w' ⟨rfl, rfl⟩; exact ⟨by rw [← h2], rfl⟩)
  clear C1 C2 h1 h2
  have hw : word s = (!s.isEmpty && (!s.contains 32 && (idx (32 :: (s ++ [32])) wordList).isSome)) := rfl
  rw [hw]
  rcases hE : s.isEmpty with _ | _
  · rcases hb : s.contains 32 with _ | _
    · rw [hb] at C1'
      generalize (idx (32 :: (s ++ [32])) wordList).isSome = r at *
      have z1 : ¬ 9223372036854775807 < s.length + 1 := by omega
      have z2 : ¬ 9223372036854775807 < s.length + 1 + 1 := by omega
      have z3 : ¬ 9223372036854775807 < 1 + s.length := by omega
      clear hw hm
      go_enter Tryz.func9, Tryz.ntmps9
      go_wp2_with fail
      refine (C1' _).mono ?_
      rintro e w1 ⟨rfl, rfl⟩
      go_wp2_with fail
      refine C2'.mono ?_
      rintro e w2 ⟨rfl, rfl⟩
      go_wp2
      go_ret
      exact ⟨rfl, Pur.refl _⟩
    · rw [hb] at C1'
      clear hw hm C2'
      go_enter Tryz.func9, Tryz.ntmps9
      go_wp2_with fail
      refine (C1' _).mono ?_
      rintro e w1 ⟨rfl, rfl⟩
      go_wp2
      go_ret
      exact ⟨rfl, Pur.refl _⟩
  · clear hw hm C2' C1'
    go_enter Tryz.func9, Tryz.ntmps9
    go_wp2
    go_ret
    exact ⟨rfl, Pur.refl _⟩
def spB (s : List UInt8) (k : Nat) : Bool := letter (by8 s k) || (!(k == 0) && digit (by8 s k))
theorem spelt_iff (s : List UInt8) (h : s ≠ []) : spelt s = true ↔ ∀ k, k < s.length → spB s k = true := by
  cases s with
  | nil => exact absurd rfl h
  | cons b r =>
    simp only [spelt, Bool.and_eq_true, List.all_eq_true]
    constructor
    · rintro ⟨h1, h2⟩ k hk
      cases k with
      | zero => simp [spB, by8, h1]
      | succ k =>
        have hk' : k < r.length := by simpa using hk
        have := h2 r[k] (List.getElem_mem hk')
        have e : by8 (b :: r) (k + 1) = r[k].toNat := by simp [by8, List.getD_eq_getElem?_getD, List.getElem?_eq_getElem hk']
        simp only [spB, e]
        simpa using this
    · intro h1
      refine ⟨by have := h1 0 (by simp); simpa [spB, by8] using this, fun c hc => ?_⟩
      obtain ⟨k, hk, rfl⟩ := List.mem_iff_getElem.1 hc
      have := h1 (k + 1) (by simpa using hk)
      have e : by8 (b :: r) (k + 1) = r[k].toNat := by simp [by8, List.getD_eq_getElem?_getD, List.getElem?_eq_getElem hk]
      simp only [spB, e] at this
      simpa using this
set_option maxRecDepth 100000 in
set_option maxHeartbeats 4000000 in
theorem name_any (s : List UInt8) (w : World) (hT : LW w) (hs : s.length ≤ 1000000000) : Calls Tryz.prog 11 #[.string ⟨s.toArray⟩] w fun e w' => e = .returned (.bool (nameB s)) ∧ Pur w w' := by
  go_enter Tryz.func11, Tryz.ntmps11
  go_wp2
  go_loopw [6] (fun k wr => ∃ n : Nat, n ≤ s.length ∧ k = .int .i64 n ∧ wr = w ∧ Hid (∀ k, k < n → spB s k = true)) (fun k _ => s.length + 1 - (intOf k).toNat)
  case atStart => exact ⟨0, by omega, rfl, rfl, Lib.hid (fun k hk => by omega)⟩
  case round =>
    obtain ⟨n, hn, rfl, rfl, H⟩ := hrel
    by_cases hlt : n < s.length
    · have hlt' : (n : Int) < s.length := by omega
      have wn : IntKind.i64.wrap ((n : Int) + 1) = (n : Int) + 1 := IntWalk.i64_in _ (by omega)
      have L := fun w => letter_any (by8 s n) w
      have D := fun w => digit_any (by8 s n) w
      have hne : s ≠ [] := fun e => by rw [e] at hlt; simp at hlt
      have hbad : spB s n = false → nameB s = false := fun hb => by
        unfold nameB
        have : spelt s = false := by
          rcases h : spelt s with _ | _
          · rfl
          · have := (spelt_iff s hne).1 h n hlt
            rw [hb] at this; cases this
        rw [this]; rfl
      have hgood : spB s n = true → ∀ k, k < n + 1 → spB s k = true := fun hb k hk => by
        rcases Nat.lt_or_ge k n with g | g
        · exact H.out k g
        · rw [show k = n by omega]; exact hb
      have hsp : spB s n = (letter (by8 s n) || (!(n == 0) && digit (by8 s n))) := rfl
      rw [hsp] at hbad hgood
      rcases hl : letter (by8 s n) with _ | _
      · rw [hl] at L hbad hgood
        by_cases h0 : n = 0
        · subst h0
          have HS := Lib.hid (hbad rfl)
          clear hbad hgood hsp H
          go_wp2_with fail
          refine (L _).mono ?_
          rintro e w1 ⟨rfl, rfl⟩
          go_wp2
          go_ret
          rw [HS.out]
          exact ⟨rfl, Pur.refl _⟩
        · have d0 : ((n : Int) == 0) = false := by rw [beq_eq_false_iff_ne]; omega
          have d0' : (n == 0) = false := by rw [beq_eq_false_iff_ne]; omega
          rw [d0'] at hbad hgood
          rcases hd : digit (by8 s n) with _ | _
          · rw [hd] at D hbad
            have HS := Lib.hid (hbad rfl)
            clear hbad hgood hsp H h0 d0'
            go_wp2_with fail
            refine (L _).mono ?_
            rintro e w1 ⟨rfl, rfl⟩
            go_wp2_with fail
            refine (D _).mono ?_
            rintro e w2 ⟨rfl, rfl⟩
            go_wp2
            go_ret
            rw [HS.out]
            exact ⟨rfl, Pur.refl _⟩
          · rw [hd] at D hgood
            have HS := Lib.hid (hgood rfl)
            clear hbad hgood hsp H h0 d0'
            go_wp2_with fail
            refine (L _).mono ?_
            rintro e w1 ⟨rfl, rfl⟩
            go_wp2_with fail
            refine (D _).mono ?_
            rintro e w2 ⟨rfl, rfl⟩
            go_wp2
            go_roundw
            case rel => exact ⟨n + 1, by omega, by go_num, trivial, HS⟩
            case measure => simp [intOf]; omega
      · rw [hl] at L hgood
        have HS := Lib.hid (hgood rfl)
        clear hbad hgood hsp H
        go_wp2_with fail
        refine (L _).mono ?_
        rintro e w1 ⟨rfl, rfl⟩
        go_wp2
        go_roundw
        case rel => exact ⟨n + 1, by omega, by go_num, trivial, HS⟩
        case measure => simp [intOf]; omega
    · obtain rfl : n = s.length := by omega
      have hlt' : ¬ (s.length : Int) < s.length := by omega
      have WD := word_any s wr hT hs
      have hnm : nameB s = (!s.isEmpty && !word s) := by
        unfold nameB
        cases hs0 : s with
        | nil => rfl
        | cons b r =>
          have hne : s ≠ [] := by rw [hs0]; simp
          have h3 := (spelt_iff s hne).2 H.out
          rw [hs0] at h3
          rw [h3]
          rfl
      rcases hE : s.isEmpty with _ | _
      · rcases hw : word s with _ | _
        all_goals
          have HS := Lib.hid (show nameB s = _ by rw [hnm, hE, hw])
          rw [hw] at WD
          clear H hnm hw
          go_wp2_with fail
          refine WD.mono ?_
          rintro e w1 ⟨rfl, p1⟩
          go_wp2
          go_ret
          rw [HS.out]
          exact ⟨rfl, p1⟩
      · have HS := Lib.hid (show nameB s = _ by rw [hnm, hE])
        clear WD H hnm
        go_wp2
        go_ret
        rw [HS.out]
        exact ⟨rfl, Pur.refl _⟩
end Lx
end Go.Proofs.YtepmneongpbglaaGreatDoor
