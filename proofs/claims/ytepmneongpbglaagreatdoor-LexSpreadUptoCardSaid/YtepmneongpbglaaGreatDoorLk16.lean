/- Layer 5, the document's answer: words and names. -/
import Derived.Test.YtepmneongpbglaaGreatDoorLkX
namespace Go.Proofs.YtepmneongpbglaaGreatDoor
open Go Go.RowKit
set_option linter.all false
namespace Lx
set_option maxRecDepth 100000 in
theorem rLetter_any (b : Nat) (w : World) : Calls Tryz.prog 27 #[.int .u8 (b : Int)] w fun e w' => e = .returned (.bool (letter b)) ∧ w = w' := by
  have hq : letter b = (((b : Int) == 95 || (b : Int) == 36) || ((decide (65 ≤ (b : Int)) && decide ((b : Int) ≤ 90)) || (decide (97 ≤ (b : Int)) && decide ((b : Int) ≤ 122)))) := by
    rw [Bool.eq_iff_iff]
    simp only [letter, Bool.and_eq_true, Bool.or_eq_true, decide_eq_true_eq, beq_iff_eq]
    omega
  rw [hq]
  generalize (b : Int) = c
  clear hq
  rcases d1 : decide (97 ≤ c) with _ | _ <;> rcases d2 : decide (c ≤ 122) with _ | _ <;> rcases d3 : decide (65 ≤ c) with _ | _ <;> rcases d4 : decide (c ≤ 90) with _ | _ <;> rcases d5 : (c == 95) with _ | _ <;> rcases d6 : (c == 36) with _ | _
  all_goals
    go_enter Tryz.func27, Tryz.ntmps27
    go_wp2
    go_ret
    exact ⟨rfl, rfl⟩
set_option maxRecDepth 100000 in
theorem rDigit_any (b : Nat) (w : World) : Calls Tryz.prog 28 #[.int .u8 (b : Int)] w fun e w' => e = .returned (.bool (digit b)) ∧ w = w' := by
  have hq : digit b = (decide (48 ≤ (b : Int)) && decide ((b : Int) ≤ 57)) := by
    rw [Bool.eq_iff_iff]
    simp only [digit, Bool.and_eq_true, decide_eq_true_eq]
    omega
  rw [hq]
  generalize (b : Int) = c
  clear hq
  rcases d1 : decide (48 ≤ c) with _ | _ <;> rcases d2 : decide (c ≤ 57) with _ | _
  all_goals
    go_enter Tryz.func28, Tryz.ntmps28
    go_wp2
    go_ret
    exact ⟨rfl, rfl⟩
theorem has_drop (s : List UInt8) {n : Nat} (h : n < s.length) : (s.drop n).contains 32 = ((by8 s n == 32) || (s.drop (n + 1)).contains 32) := by
  rw [List.drop_eq_getElem_cons h, List.contains_cons]
  congr 1
  have e : by8 s n = s[n].toNat := by simp [by8, List.getD_eq_getElem?_getD, List.getElem?_eq_getElem h]
  rw [e, Bool.eq_iff_iff, beq_iff_eq, beq_iff_eq]
  constructor
  · intro h; rw [← h]; rfl
  · intro h; exact (UInt8.toNat_inj.1 (by rw [h]; rfl)).symm
set_option maxRecDepth 100000 in
set_option maxHeartbeats 4000000 in
theorem rspaced_any (s : List UInt8) (w : World) (hs : s.length ≤ 1000000000) : Calls Tryz.prog 18 #[.string ⟨s.toArray⟩] w fun e w' => e = .returned (.bool (s.contains 32)) ∧ w = w' := by
  obtain ⟨b, hb⟩ : ∃ b, s.contains 32 = b := ⟨_, rfl⟩
  rw [hb]
  have HB := Lib.hid (show b = (s.drop 0).contains 32 from hb.symm)
  clear hb
  go_enter Tryz.func18, Tryz.ntmps18
  go_wp2
  go_loopw [3] (fun x wr => ∃ n : Nat, x = .int .i64 (n : Int) ∧ n ≤ s.length ∧ Hid (wr = w) ∧ Hid (b = (s.drop n).contains 32)) (fun x _ => s.length + 1 - (intOf x).toNat)
  case atStart => exact ⟨0, rfl, by omega, Lib.hid rfl, HB⟩
  case round =>
    obtain ⟨n, rfl, hn, hw, H⟩ := hrel
    by_cases hlt : n < s.length
    · have hlt' : (n : Int) < s.length := by omega
      have wn : IntKind.i64.wrap ((n : Int) + 1) = (n : Int) + 1 := IntWalk.i64_in _ (by omega)
      have HS := Lib.hid (show b = ((by8 s n == 32) || (s.drop (n + 1)).contains 32) by rw [H.out, has_drop s hlt])
      have e1 : ((by8 s n : Int) == 32) = (by8 s n == 32) := by rw [Bool.eq_iff_iff, beq_iff_eq, beq_iff_eq]; omega
      clear H
      rcases hb : (by8 s n == 32) with _ | _
      · rw [hb] at HS e1
        have HS2 := Lib.hid (show b = (s.drop (n + 1)).contains 32 from HS.out)
        clear HS hb
        go_wp2
        go_roundw
        case rel => exact ⟨n + 1, by go_num, by omega, hw, HS2⟩
        case measure => simp [intOf]; omega
      · rw [hb] at HS e1
        have HS2 := Lib.hid (show b = true from HS.out)
        clear HS hb
        go_wp2
        go_ret
        rw [HS2.out]
        exact ⟨rfl, hw.out.symm⟩
    · have hlt' : ¬ (n : Int) < s.length := by omega
      have HS2 := Lib.hid (show b = false by rw [H.out, List.drop_of_length_le (by omega)]; rfl)
      clear H
      go_wp2
      go_ret
      rw [HS2.out]
      exact ⟨rfl, hw.out.symm⟩
theorem wl_len : wordList.length ≤ 1000 := by decide +kernel
/-- does it stand there, blanks at its sides? -/
def stB (s l : List UInt8) (i : Nat) : Bool := (by8 l i == 32) && ((sub l (i + 1) (i + 1 + s.length) == s) && (by8 l (i + 1 + s.length) == 32))
theorem stB_iff {s l : List UInt8} {i : Nat} (hi : i + s.length + 2 ≤ l.length) : stB s l i = true ↔ (32 :: (s ++ [32])) <+: l.drop i := by
  rw [stands hi]
  simp only [stB, Bool.and_eq_true, beq_iff_eq]
set_option maxRecDepth 100000 in
set_option maxHeartbeats 8000000 in
theorem ramong_any (s l : List UInt8) (w : World) (hs : s.length ≤ 1000000000) (hl : l.length ≤ 1000000000) : Calls Tryz.prog 19 #[.string ⟨s.toArray⟩, .string ⟨l.toArray⟩] w fun e w' => e = .returned (.bool (idx (32 :: (s ++ [32])) l).isSome) ∧ w = w' := by
  go_enter Tryz.func19, Tryz.ntmps19
  go_wp2
  go_loopw [5] (fun x wr => ∃ n : Nat, x = .int .i64 (n : Int) ∧ n ≤ l.length + 1 ∧ Hid (wr = w) ∧ Hid (∀ k, k < n → ¬ (32 :: (s ++ [32])) <+: l.drop k)) (fun x _ => l.length + 2 - (intOf x).toNat)
  case atStart => exact ⟨0, rfl, by omega, Lib.hid rfl, Lib.hid (fun k hk => by omega)⟩
  case round =>
    obtain ⟨n, rfl, hn, hw, H⟩ := hrel
    by_cases hlt : n + s.length + 2 ≤ l.length
    · have hlt' : (n : Int) + (s.length : Int) + 2 ≤ l.length := by omega
      have hl1 : (n : Int) < l.length := by omega
      have hl2 : (n : Int) + 1 + (s.length : Int) ≤ l.length := by omega
      have hl3 : (n : Int) + 1 + (s.length : Int) < l.length := by omega
      have wn : IntKind.i64.wrap ((n : Int) + 1) = (n : Int) + 1 := IntWalk.i64_in _ (by omega)
      have w0 : IntKind.i64.wrap ((n : Int) + (s.length : Int)) = (n : Int) + (s.length : Int) := IntWalk.i64_in _ (by omega)
      have w2 : IntKind.i64.wrap ((n : Int) + (s.length : Int) + 2) = (n : Int) + (s.length : Int) + 2 := IntWalk.i64_in _ (by omega)
      have w3 : IntKind.i64.wrap ((n : Int) + 1 + (s.length : Int)) = (n : Int) + 1 + (s.length : Int) := IntWalk.i64_in _ (by omega)
      have n1 : ((n : Int) + 1).toNat = n + 1 := by omega
      have n2 : ((n : Int) + 1 + (s.length : Int)).toNat = n + 1 + s.length := by omega
      have hst : stB s l n = ((by8 l n == 32) && ((sub l (n + 1) (n + 1 + s.length) == s) && (by8 l (n + 1 + s.length) == 32))) := rfl
      have e1 : ((by8 l n : Int) == 32) = (by8 l n == 32) := by rw [Bool.eq_iff_iff, beq_iff_eq, beq_iff_eq]; omega
      have e3 : ((by8 l (n + 1 + s.length) : Int) == 32) = (by8 l (n + 1 + s.length) == 32) := by rw [Bool.eq_iff_iff, beq_iff_eq, beq_iff_eq]; omega
      have hno := Lib.hid (show stB s l n = false → ∀ k, k < n + 1 → ¬ (32 :: (s ++ [32])) <+: l.drop k from fun hf k hk => by
        rcases Nat.lt_or_ge k n with g | g
        · exact H.out k g
        · obtain rfl : k = n := by omega
          intro hp
          rw [(stB_iff hlt).2 hp] at hf
          cases hf)
      have hyes := Lib.hid (show stB s l n = true → (idx (32 :: (s ++ [32])) l).isSome = true from fun ht => idx_some_of l n ((stB_iff hlt).1 ht) (by simp))
      clear H
      rcases b1 : (by8 l n == 32) with _ | _
      · rw [b1] at e1 hst
        have HN := Lib.hid (hno.out hst)
        clear hno hyes hst b1
        go_wp2
        go_roundw
        case rel => exact ⟨n + 1, by go_num, by omega, hw, HN⟩
        case measure => simp [intOf]; omega
      · rw [b1] at e1 hst
        rcases b2 : (sub l (n + 1) (n + 1 + s.length) == s) with _ | _
        · rw [b2] at hst
          have HN := Lib.hid (hno.out hst)
          clear hno hyes hst b1
          go_wp2
          go_roundw
          case rel => exact ⟨n + 1, by go_num, by omega, hw, HN⟩
          case measure => simp [intOf]; omega
        · rw [b2] at hst
          rcases b3 : (by8 l (n + 1 + s.length) == 32) with _ | _
          · rw [b3] at e3 hst
            have HN := Lib.hid (hno.out hst)
            clear hno hyes hst b1
            go_wp2
            go_roundw
            case rel => exact ⟨n + 1, by go_num, by omega, hw, HN⟩
            case measure => simp [intOf]; omega
          · rw [b3] at e3 hst
            have HN := Lib.hid (hyes.out hst)
            clear hno hyes hst b1
            go_wp2
            go_ret
            rw [HN.out]
            exact ⟨rfl, hw.out.symm⟩
    · have hlt' : ¬ (n : Int) + (s.length : Int) + 2 ≤ l.length := by omega
      have w0 : IntKind.i64.wrap ((n : Int) + (s.length : Int)) = (n : Int) + (s.length : Int) := IntWalk.i64_in _ (by omega)
      have w2 : IntKind.i64.wrap ((n : Int) + (s.length : Int) + 2) = (n : Int) + (s.length : Int) + 2 := IntWalk.i64_in _ (by omega)
      have HN := Lib.hid (show (idx (32 :: (s ++ [32])) l).isSome = false by
        rw [idx_none_of (by simp) l (fun k hk hp => ?_)]
        · rfl
        · rcases Nat.lt_or_ge k n with g | g
          · exact H.out k g hp
          · have := hp.length_le
            simp only [List.length_cons, List.length_append, List.length_nil, List.length_drop] at this
            omega)
      clear H
      go_wp2
      go_ret
      rw [HN.out]
      exact ⟨rfl, hw.out.symm⟩
set_option maxRecDepth 100000 in
set_option maxHeartbeats 4000000 in
theorem rWord_any (s : List UInt8) (w : World) (hs : s.length ≤ 1000000000) : Calls Tryz.prog 10 #[.string ⟨s.toArray⟩] w fun e w' => e = .returned (.bool (word s)) ∧ w = w' := by
  have S1 := fun w => rspaced_any s w hs
  have A1 := fun w => ramong_any s wordList w hs (Nat.le_trans wl_len (by decide))
  have hw : word s = (!s.isEmpty && (!s.contains 32 && (idx (32 :: (s ++ [32])) wordList).isSome)) := rfl
  rw [hw]
  rcases hE : s.isEmpty with _ | _
  · rcases hb : s.contains 32 with _ | _
    · rw [hb] at S1
      generalize (idx (32 :: (s ++ [32])) wordList).isSome = r at *
      clear hw hb
      go_enter Tryz.func10, Tryz.ntmps10
      go_wp2_with fail
      refine (S1 _).mono ?_
      rintro e w1 ⟨rfl, rfl⟩
      go_wp2_with fail
      refine (A1 _).mono ?_
      rintro e w1 ⟨rfl, rfl⟩
      go_wp2
      go_ret
      exact ⟨rfl, rfl⟩
    · rw [hb] at S1
      clear hw hb A1
      go_enter Tryz.func10, Tryz.ntmps10
      go_wp2_with fail
      refine (S1 _).mono ?_
      rintro e w1 ⟨rfl, rfl⟩
      go_wp2
      go_ret
      exact ⟨rfl, rfl⟩
  · clear hw A1 S1
    go_enter Tryz.func10, Tryz.ntmps10
    go_wp2
    go_ret
    exact ⟨rfl, rfl⟩
theorem spelt_drop (s : List UInt8) (h : s ≠ []) : spelt s = (letter (by8 s 0) && s.all fun c => letter c.toNat || digit c.toNat) := by
  cases s with
  | nil => exact absurd rfl h
  | cons b r =>
    simp only [spelt, List.all_cons, by8, List.getD_cons_zero]
    cases letter b.toNat <;> simp
theorem all_drop (f : Nat → Bool) (s : List UInt8) {n : Nat} (h : n < s.length) : ((s.drop n).all fun c => f c.toNat) = (f (by8 s n) && (s.drop (n + 1)).all fun c => f c.toNat) := by
  rw [List.drop_eq_getElem_cons h, List.all_cons]
  congr 2
  simp [by8, List.getD_eq_getElem?_getD, List.getElem?_eq_getElem h]
set_option maxRecDepth 100000 in
set_option maxHeartbeats 8000000 in
theorem rSpelt_any (s : List UInt8) (w : World) (hs : s.length ≤ 1000000000) : Calls Tryz.prog 22 #[.string ⟨s.toArray⟩] w fun e w' => e = .returned (.bool (spelt s)) ∧ w = w' := by
  rcases hE : s.isEmpty with _ | _
  · have hne : s ≠ [] := by intro e; rw [e] at hE; cases hE
    have h0 : 0 < s.length := by cases s with | nil => exact absurd rfl hne | cons _ _ => simp
    have h0' : (0 : Int) < s.length := by omega
    have L0 := fun w => rLetter_any (by8 s 0) w
    have hsp := spelt_drop s hne
    obtain ⟨r, hr⟩ : ∃ r, spelt s = r := ⟨_, rfl⟩
    rw [hr] at hsp ⊢
    rcases hl : letter (by8 s 0) with _ | _
    · rw [hl] at hsp L0
      have HS := Lib.hid hsp
      clear hsp hr hl
      go_enter Tryz.func22, Tryz.ntmps22
      go_wp2_with fail
      refine (L0 _).mono ?_
      rintro e w1 ⟨rfl, rfl⟩
      go_wp2
      go_ret
      rw [HS.out]
      exact ⟨rfl, rfl⟩
    · rw [hl] at hsp L0
      have HS := Lib.hid (show r = ((s.drop 0).all fun c => wordC c.toNat) from hsp)
      clear hsp hr hl
      go_enter Tryz.func22, Tryz.ntmps22
      go_wp2_with fail
      refine (L0 _).mono ?_
      rintro e w1 ⟨rfl, rfl⟩
      go_wp2
      go_loopw [3] (fun x wr => ∃ n : Nat, x = .int .i64 (n : Int) ∧ n ≤ s.length ∧ Hid (wr = w) ∧ Hid (r = ((s.drop n).all fun c => wordC c.toNat))) (fun x _ => s.length + 1 - (intOf x).toNat)
      case atStart => exact ⟨0, rfl, by omega, Lib.hid rfl, HS⟩
      case round =>
        obtain ⟨n, rfl, hn, hw, H⟩ := hrel
        clear L0 HS
        by_cases hlt : n < s.length
        · have hlt' : (n : Int) < s.length := by omega
          have wn : IntKind.i64.wrap ((n : Int) + 1) = (n : Int) + 1 := IntWalk.i64_in _ (by omega)
          have HG := Lib.hid (show r = (wordC (by8 s n) && (s.drop (n + 1)).all fun c => wordC c.toNat) by rw [H.out, all_drop wordC s hlt])
          have hwc : wordC (by8 s n) = (letter (by8 s n) || digit (by8 s n)) := rfl
          have L := fun w => rLetter_any (by8 s n) w
          have D := fun w => rDigit_any (by8 s n) w
          clear H
          rcases b1 : letter (by8 s n) with _ | _
          · rcases b2 : digit (by8 s n) with _ | _
            · rw [b1, b2] at hwc
              rw [b1] at L
              rw [b2] at D
              have HN := Lib.hid (show r = false by rw [HG.out, hwc]; rfl)
              clear HG hwc b1 b2
              go_wp2_with fail
              refine (L _).mono ?_
              rintro e w1 ⟨rfl, rfl⟩
              go_wp2_with fail
              refine (D _).mono ?_
              rintro e w1 ⟨rfl, rfl⟩
              go_wp2
              go_ret
              rw [HN.out]
              exact ⟨rfl, hw.out.symm⟩
            · rw [b1, b2] at hwc
              rw [b1] at L
              rw [b2] at D
              have HN := Lib.hid (show r = ((s.drop (n + 1)).all fun c => wordC c.toNat) by rw [HG.out, hwc]; rfl)
              clear HG hwc b1 b2
              go_wp2_with fail
              refine (L _).mono ?_
              rintro e w1 ⟨rfl, rfl⟩
              go_wp2_with fail
              refine (D _).mono ?_
              rintro e w1 ⟨rfl, rfl⟩
              go_wp2
              go_roundw
              case rel => exact ⟨n + 1, by go_num, by omega, hw, HN⟩
              case measure => simp [intOf]; omega
          · rw [b1] at hwc L
            have HN := Lib.hid (show r = ((s.drop (n + 1)).all fun c => wordC c.toNat) by rw [HG.out, hwc]; rfl)
            clear HG hwc b1 D
            go_wp2_with fail
            refine (L _).mono ?_
            rintro e w1 ⟨rfl, rfl⟩
            go_wp2
            go_roundw
            case rel => exact ⟨n + 1, by go_num, by omega, hw, HN⟩
            case measure => simp [intOf]; omega
        · have hlt' : ¬ (n : Int) < s.length := by omega
          have HN := Lib.hid (show r = true by rw [H.out, List.drop_of_length_le (by omega)]; rfl)
          clear H
          go_wp2
          go_ret
          rw [HN.out]
          exact ⟨rfl, hw.out.symm⟩
  · have he : s = [] := by cases s with | nil => rfl | cons _ _ => cases hE
    have HS := Lib.hid (show spelt s = false by rw [he]; rfl)
    clear he
    go_enter Tryz.func22, Tryz.ntmps22
    go_wp2
    go_ret
    rw [HS.out]
    exact ⟨rfl, rfl⟩
set_option maxRecDepth 100000 in
theorem rName_any (s : List UInt8) (w : World) (hs : s.length ≤ 1000000000) : Calls Tryz.prog 12 #[.string ⟨s.toArray⟩] w fun e w' => e = .returned (.bool (nameB s)) ∧ w = w' := by
  have S := fun w => rSpelt_any s w hs
  have W := fun w => rWord_any s w hs
  have hn : nameB s = (spelt s && !word s) := rfl
  rw [hn]
  clear hn
  rcases h1 : spelt s with _ | _
  · rw [h1] at S
    clear W h1
    go_enter Tryz.func12, Tryz.ntmps12
    go_wp2_with fail
    refine (S _).mono ?_
    rintro e w1 ⟨rfl, rfl⟩
    go_wp2
    go_ret
    exact ⟨rfl, rfl⟩
  · rw [h1] at S
    generalize word s = b at *
    clear h1
    go_enter Tryz.func12, Tryz.ntmps12
    go_wp2_with fail
    refine (S _).mono ?_
    rintro e w1 ⟨rfl, rfl⟩
    go_wp2_with fail
    refine (W _).mono ?_
    rintro e w1 ⟨rfl, rfl⟩
    go_wp2
    go_ret
    exact ⟨by simp, rfl⟩
end Lx
end Go.Proofs.YtepmneongpbglaaGreatDoor
