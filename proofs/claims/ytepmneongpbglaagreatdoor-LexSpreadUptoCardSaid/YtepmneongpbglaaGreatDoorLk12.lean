/- Layer 5: the mark that stands at a place. -/
import Derived.Test.YtepmneongpbglaaGreatDoorLk3
namespace Go.Proofs.YtepmneongpbglaaGreatDoor
open Go Go.RowKit
set_option linter.all false
namespace Lx
def isP (l : List UInt8) (i : Nat) (m : List UInt8) : Bool := m.isPrefixOf (l.drop i)
set_option maxRecDepth 100000 in
theorem mark_one {w : World} {p q i : Nat} {l : List UInt8} {ln : Bool} {v : Value} (m : List UInt8) (k : Lb w p l i ln v) (hq : w.heap[q]? = some (.cells #[.pointer (some ⟨p, 0, none⟩)] 37 (0, 0))) (hi : i ≤ l.length) :
    Calls Tryz.prog 39 #[.string ⟨m.toArray⟩, .pointer (some ⟨q, 0, none⟩)] w fun e w' => e = .returned (.bool (isP l i m)) ∧ Pur w w' := by
  have c0 := bk_cell hq 0 _ rfl
  have RS := rest_any k hi
  have P1 := fun w' => pref_any (l.drop i) m w'
  unfold isP
  generalize l.drop i = r at *
  generalize m.isPrefixOf r = b at *
  clear k hq
  go_enter Tryz.func39, Tryz.ntmps39
  go_wp2_with fail
  refine RS.mono ?_
  rintro e w1 ⟨rfl, p1⟩
  go_wp2_with fail
  refine (P1 _).mono ?_
  rintro e w2 ⟨rfl, rfl⟩
  go_wp2
  go_ret
  exact ⟨rfl, p1⟩
/-- where among the marks -/
def mIdx (f : List UInt8 → Bool) : List (List UInt8) → Nat → Int
  | [], _ => -1
  | m :: r, k => if f m then (k : Int) else mIdx f r (k + 1)
theorem mIdx_find (f : List UInt8 → Bool) : ∀ (xs : List (List UInt8)) (k : Nat), (xs.find? f = none ∧ mIdx f xs k = -1) ∨ ∃ j m, xs[j]? = some m ∧ xs.find? f = some m ∧ mIdx f xs k = ((k + j : Nat) : Int)
  | [], k => .inl ⟨rfl, rfl⟩
  | x :: r, k => by
    by_cases h : f x = true
    · exact .inr ⟨0, x, rfl, by rw [List.find?_cons_of_pos h], by rw [mIdx, if_pos h]; rfl⟩
    · rcases mIdx_find f r (k + 1) with ⟨h1, h2⟩ | ⟨j, m, h1, h2, h3⟩
      · exact .inl ⟨by rw [List.find?_cons_of_neg h]; exact h1, by rw [mIdx, if_neg h]; exact h2⟩
      · exact .inr ⟨j + 1, m, by simpa using h1, by rw [List.find?_cons_of_neg h]; exact h2, by rw [mIdx, if_neg h, h3]; congr 1; omega⟩
theorem marks_len : marks.length = 42 := rfl
set_option maxRecDepth 100000 in
set_option maxHeartbeats 4000000 in
theorem marks_any {w0 w : World} {p q i : Nat} {l : List UInt8} {ln : Bool} {v : Value} (k : Lb w p l i ln v) (B : LB w0 p w) (hq : w.heap[q]? = some (.cells #[.pointer (some ⟨p, 0, none⟩)] 37 (0, 0))) (hi : i ≤ l.length) :
    Calls Tryz.prog 38 #[.slice (some ⟨0, 0, none⟩) 42 42, .func (.func 39) #[] #[.pointer (some ⟨q, 0, none⟩)]] w fun e w' => e = .returned (.int .i64 (mIdx (isP l i) marks 0)) ∧ Pur w w' := by
  go_enter Tryz.func38, Tryz.ntmps38
  go_wp2
  go_loopw [8] (fun x wr => ∃ n : Nat, n ≤ 42 ∧ x = .int .i64 n ∧ Pur w wr ∧ Hid (mIdx (isP l i) marks 0 = mIdx (isP l i) (marks.drop n) n)) (fun x _ => 43 - (intOf x).toNat)
  case atStart => exact ⟨0, by omega, rfl, Pur.refl _, Lib.hid rfl⟩
  case round =>
    obtain ⟨n, hn, rfl, hp, H⟩ := hrel
    by_cases hlt : n < 42
    · have hlt' : (n : Int) < 42 := by omega
      have wn : IntKind.i64.wrap ((n : Int) + 1) = (n : Int) + 1 := IntWalk.i64_in _ (by omega)
      obtain ⟨m, hm⟩ : ∃ m, marks[n]? = some m := ⟨marks[n]'(by rw [marks_len]; exact hlt), List.getElem?_eq_getElem _⟩
      have c0 := (B.purd hp).w.marks n m hm
      have hd : marks.drop n = m :: marks.drop (n + 1) := by
        have hl : n < marks.length := by rw [marks_len]; exact hlt
        rw [List.drop_eq_getElem_cons hl]
        rw [List.getElem?_eq_getElem hl] at hm
        rw [Option.some.inj hm]
      have hH : mIdx (isP l i) marks 0 = if isP l i m then (n : Int) else mIdx (isP l i) (marks.drop (n + 1)) (n + 1) := by rw [H.out, hd, mIdx]
      have MO := mark_one m (k.pur hp) (bk_pur hq hp) hi
      rcases hb : isP l i m with _ | _
      · rw [hb] at hH MO
        have HS := Lib.hid hH
        clear hH hd H hm
        go_wp2_with fail
        refine MO.mono ?_
        rintro e w1 ⟨rfl, p1⟩
        go_wp2
        go_roundw
        case rel => exact ⟨n + 1, by omega, by go_num, hp.trans p1, HS⟩
        case measure => simp [intOf]; omega
      · rw [hb] at hH MO
        have HS := Lib.hid hH
        clear hH hd H hm
        go_wp2_with fail
        refine MO.mono ?_
        rintro e w1 ⟨rfl, p1⟩
        go_wp2
        go_ret
        rw [HS.out]
        exact ⟨rfl, hp.trans p1⟩
    · obtain rfl : n = 42 := by omega
      have HS := Lib.hid (show mIdx (isP l i) marks 0 = -1 by rw [H.out]; rfl)
      clear H
      go_wp2
      go_ret
      rw [HS.out]
      exact ⟨rfl, hp⟩
end Lx
end Go.Proofs.YtepmneongpbglaaGreatDoor
