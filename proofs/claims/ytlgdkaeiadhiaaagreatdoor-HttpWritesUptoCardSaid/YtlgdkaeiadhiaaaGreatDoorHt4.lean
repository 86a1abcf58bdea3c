/- The document's blankless, Digits, Split. -/
import Derived.Test.YtlgdkaeiadhiaaaGreatDoorHt3
import Derived.Laws.AppendOwnNone
namespace Go.Proofs.YtlgdkaeiadhiaaaGreatDoor
open Go Go.RowKit
set_option linter.all false
def strLen : Value → Nat
  | .string s => s.data.size
  | _ => 0
@[simp] theorem strLen_mk (l : Bytes) : strLen (.string ⟨l.toArray⟩) = l.length := by simp [strLen]
theorem blank_iff (c : UInt8) : blankB c = true ↔ c.toNat = 32 ∨ c.toNat = 9 := by
  simp only [blankB, Bool.or_eq_true, beq_iff_eq]
  rw [← UInt8.toNat_inj, ← UInt8.toNat_inj]
  rfl
theorem blank_tests (c : UInt8) : (((c.toNat : Int) == 32) = true ∧ blankB c = true) ∨ (((c.toNat : Int) == 32) = false ∧ ((c.toNat : Int) == 9) = true ∧ blankB c = true) ∨ (((c.toNat : Int) == 32) = false ∧ ((c.toNat : Int) == 9) = false ∧ blankB c = false) := by
  by_cases h1 : c.toNat = 32
  · exact .inl ⟨by simp [h1], (blank_iff c).2 (.inl h1)⟩
  · by_cases h2 : c.toNat = 9
    · exact .inr (.inl ⟨by simp [h2], by simp [h2], (blank_iff c).2 (.inr h2)⟩)
    · refine .inr (.inr ⟨by simp only [beq_eq_false_iff_ne, ne_eq]; omega, by simp only [beq_eq_false_iff_ne, ne_eq]; omega, ?_⟩)
      rw [Bool.eq_false_iff, ne_eq, blank_iff]
      omega
set_option maxRecDepth 100000 in
set_option maxHeartbeats 4000000 in
theorem blankless_any (l : Bytes) (w : World) (hs : l.length ≤ 140737488351232) :
    Calls Tryz.prog 46 #[.string ⟨l.toArray⟩] w fun e w' => e = .returned (.string ⟨(trim l).toArray⟩) ∧ w = w' := by
  go_enter Tryz.func46, Tryz.ntmps46
  go_wp2
  go_loop [0] (fun s => ∃ m : Bytes, s = .string ⟨m.toArray⟩ ∧ m.length ≤ l.length ∧ Hid (m.dropWhile blankB = l.dropWhile blankB)) (fun s => strLen s)
  case atStart => exact ⟨l, rfl, Nat.le_refl _, Lib.hid rfl⟩
  case round =>
    obtain ⟨m, rfl, hml, H⟩ := hrel
    have EXIT : m = [] ∨ (∃ c r, m = c :: r ∧ blankB c = false) ∨ (∃ c r, m = c :: r ∧ blankB c = true) := by
      cases m with
      | nil => exact .inl rfl
      | cons c r =>
        by_cases hb : blankB c = true
        · exact .inr (.inr ⟨c, r, rfl, hb⟩)
        · exact .inr (.inl ⟨c, r, rfl, by simpa using hb⟩)
    rcases EXIT with rfl | ⟨c, r, rfl, hb⟩ | ⟨c, r, rfl, hb⟩
    rotate_left 2
    focus
      have e0 : by8 (c :: r) 0 = c.toNat := rfl
      have p1 : (0 : Int) < (r.length : Int) + 1 := by omega
      have es : sub (c :: r) 1 (r.length + 1) = r := by simp [sub]
      have HN := Lib.hid (show r.dropWhile blankB = l.dropWhile blankB by rw [← H.out, List.dropWhile_cons, if_pos hb])
      rcases blank_tests c with ⟨t1, _⟩ | ⟨t1, t2, _⟩ | ⟨_, _, hbf⟩
      rotate_left 2
      · rw [hbf] at hb; cases hb
      all_goals
        clear hb H
        rw [List.length_cons] at hml
        go_wp2
        go_round
        case rel => exact ⟨r, rfl, by omega, HN⟩
        case measure => simp
    focus
      have HM := Lib.hid (show ([] : Bytes) = l.dropWhile blankB by rw [← H.out]; rfl)
      clear H
      go_wp2
    rotate_left
    focus
      rcases blank_tests c with ⟨_, hbt⟩ | ⟨_, _, hbt⟩ | ⟨t1, t2, _⟩
      · rw [hbt] at hb; cases hb
      · rw [hbt] at hb; cases hb
      have e0 : by8 (c :: r) 0 = c.toNat := rfl
      have p1 : (0 : Int) < (r.length : Int) + 1 := by omega
      have HM := Lib.hid (show (c :: r) = l.dropWhile blankB by rw [← H.out, List.dropWhile_cons, if_neg (by simp [hb])])
      clear hb H
      go_wp2
    all_goals
      go_loop [0] (fun s => ∃ q : Bytes, s = .string ⟨q.toArray⟩ ∧ q.length ≤ l.length ∧ Hid ((q.reverse.dropWhile blankB).reverse = trim l)) (fun s => strLen s)
      case atStart => exact ⟨_, rfl, hml, Lib.hid (by rw [HM.out]; rfl)⟩
      case round =>
        obtain ⟨q, rfl, hql, G⟩ := hrel
        clear HM hml
        rcases List.eq_nil_or_concat q with rfl | ⟨p, d, rfl⟩
        · have HF := Lib.hid (show ([] : Bytes) = trim l by rw [← G.out]; rfl)
          clear G
          go_wp2
          go_ret
          exact ⟨by rw [← HF.out]; rfl, rfl⟩
        · have G' := Lib.hid (show (if blankB d = true then (p.reverse.dropWhile blankB).reverse else p ++ [d]) = trim l by
            rw [← G.out]
            rw [List.concat_eq_append, List.reverse_append, List.reverse_singleton, List.singleton_append, List.dropWhile_cons]
            split
            · rfl
            · simp)
          clear G
          have ez : (p.concat d).length = p.length + 1 := by simp
          rw [ez] at hql
          have eq1 : p.concat d = p ++ [d] := List.concat_eq_append
          rw [eq1]
          have e1 : by8 (p ++ [d]) p.length = d.toNat := by simp [by8]
          have es : sub (p ++ [d]) 0 p.length = p := by simp [sub]
          have p2 : (0 : Int) < (p.length : Int) + 1 := by omega
          have p3 : (0 : Int) ≤ p.length := by omega
          clear ez eq1
          rcases blank_tests d with ⟨s1, hbt⟩ | ⟨s1, s2, hbt⟩ | ⟨s1, s2, hbt⟩
          rotate_left 2
          focus
            have HF := Lib.hid (show p ++ [d] = trim l by rw [← G'.out, if_neg (by simp [hbt])])
            clear G' hbt
            go_wp2
            go_ret
            exact ⟨by rw [← HF.out]; rfl, rfl⟩
          all_goals
            have HN := Lib.hid (show (p.reverse.dropWhile blankB).reverse = trim l by rw [← G'.out, if_pos hbt])
            clear G' hbt
            go_wp2
            go_round
            case rel => exact ⟨p, rfl, by omega, HN⟩
            case measure => simp
end Go.Proofs.YtlgdkaeiadhiaaaGreatDoor
