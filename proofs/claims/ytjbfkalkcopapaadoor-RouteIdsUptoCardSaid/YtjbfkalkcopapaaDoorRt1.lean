/- Whose type it is; letters; ids. -/
import Derived.Test.YtjbfkalkcopapaaDoorRtPure2
import Derived.Test.YtjbfkalkcopapaaDoorShelf
import Derived.Deep.CutRange
namespace Go.Proofs.YtjbfkalkcopapaaDoor
open Go Go.RowKit
set_option linter.all false
theorem beq_no {l m : Bytes} (h : ¬ l = m) : (l == m) = false := by simpa using h
theorem isEmpty_no {l : Bytes} (h : ¬ l = []) : List.isEmpty l = false := by cases l <;> simp_all
set_option maxRecDepth 100000 in
set_option maxHeartbeats 2000000 in
theorem processor_any (l : Bytes) (w : World) : Calls Tryd.prog 11 #[.string ⟨l.toArray⟩] w fun e w' => e = .returned (.int .i64 (processor l)) ∧ w = w' := by
  by_cases h0 : l = []
  · subst h0
    have e : processor [] = 1 := by decide
    rw [e]
    clear e
    go_enter Tryd.func11, Tryd.ntmps11
    go_wp2
    go_ret
    exact ⟨rfl, rfl⟩
  by_cases h1 : l = [115, 99, 120, 109, 108]
  · subst h1
    have e : processor [115, 99, 120, 109, 108] = 1 := by decide
    rw [e]
    clear e
    go_enter Tryd.func11, Tryd.ntmps11
    go_wp2
    go_ret
    exact ⟨rfl, rfl⟩
  by_cases h2 : l = [104, 116, 116, 112, 58, 47, 47, 119, 119, 119, 46, 119, 51, 46, 111, 114, 103, 47, 84, 82, 47, 115, 99, 120, 109, 108, 47, 35, 83, 67, 88, 77, 76, 69, 118, 101, 110, 116, 80, 114, 111, 99, 101, 115, 115, 111, 114]
  · subst h2
    have e : processor [104, 116, 116, 112, 58, 47, 47, 119, 119, 119, 46, 119, 51, 46, 111, 114, 103, 47, 84, 82, 47, 115, 99, 120, 109, 108, 47, 35, 83, 67, 88, 77, 76, 69, 118, 101, 110, 116, 80, 114, 111, 99, 101, 115, 115, 111, 114] = 1 := by decide
    rw [e]
    clear e
    go_enter Tryd.func11, Tryd.ntmps11
    go_wp2
    go_ret
    exact ⟨rfl, rfl⟩
  by_cases h3 : l = [98, 97, 115, 105, 99, 104, 116, 116, 112]
  · subst h3
    have e : processor [98, 97, 115, 105, 99, 104, 116, 116, 112] = 2 := by decide
    rw [e]
    clear e
    go_enter Tryd.func11, Tryd.ntmps11
    go_wp2
    go_ret
    exact ⟨rfl, rfl⟩
  by_cases h4 : l = [104, 116, 116, 112, 58, 47, 47, 119, 119, 119, 46, 119, 51, 46, 111, 114, 103, 47, 84, 82, 47, 115, 99, 120, 109, 108, 47, 35, 66, 97, 115, 105, 99, 72, 84, 84, 80, 69, 118, 101, 110, 116, 80, 114, 111, 99, 101, 115, 115, 111, 114]
  · subst h4
    have e : processor [104, 116, 116, 112, 58, 47, 47, 119, 119, 119, 46, 119, 51, 46, 111, 114, 103, 47, 84, 82, 47, 115, 99, 120, 109, 108, 47, 35, 66, 97, 115, 105, 99, 72, 84, 84, 80, 69, 118, 101, 110, 116, 80, 114, 111, 99, 101, 115, 115, 111, 114] = 2 := by decide
    rw [e]
    clear e
    go_enter Tryd.func11, Tryd.ntmps11
    go_wp2
    go_ret
    exact ⟨rfl, rfl⟩
  have e : processor l = 0 := by
    unfold processor
    rw [if_neg (by simp only [not_or]; exact ⟨h0, h1, h2⟩), if_neg (by simp only [not_or]; exact ⟨h3, h4⟩)]
  rw [e]
  have q0 := isEmpty_no h0
  have q1 := beq_no h1
  have q2 := beq_no h2
  have q3 := beq_no h3
  have q4 := beq_no h4
  clear e h0 h1 h2 h3 h4
  go_enter Tryd.func11, Tryd.ntmps11
  go_wp2
  go_ret
  exact ⟨rfl, rfl⟩
set_option maxRecDepth 100000 in
set_option maxHeartbeats 2000000 in
theorem rprocessor_any (l : Bytes) (w : World) : Calls Tryd.prog 12 #[.string ⟨l.toArray⟩] w fun e w' => e = .returned (.int .i64 (processor l)) ∧ w = w' := by
  by_cases h0 : l = []
  · subst h0
    have e : processor [] = 1 := by decide
    rw [e]
    clear e
    go_enter Tryd.func12, Tryd.ntmps12
    go_wp2
    go_ret
    exact ⟨rfl, rfl⟩
  by_cases h1 : l = [115, 99, 120, 109, 108]
  · subst h1
    have e : processor [115, 99, 120, 109, 108] = 1 := by decide
    rw [e]
    clear e
    go_enter Tryd.func12, Tryd.ntmps12
    go_wp2
    go_ret
    exact ⟨rfl, rfl⟩
  by_cases h2 : l = [104, 116, 116, 112, 58, 47, 47, 119, 119, 119, 46, 119, 51, 46, 111, 114, 103, 47, 84, 82, 47, 115, 99, 120, 109, 108, 47, 35, 83, 67, 88, 77, 76, 69, 118, 101, 110, 116, 80, 114, 111, 99, 101, 115, 115, 111, 114]
  · subst h2
    have e : processor [104, 116, 116, 112, 58, 47, 47, 119, 119, 119, 46, 119, 51, 46, 111, 114, 103, 47, 84, 82, 47, 115, 99, 120, 109, 108, 47, 35, 83, 67, 88, 77, 76, 69, 118, 101, 110, 116, 80, 114, 111, 99, 101, 115, 115, 111, 114] = 1 := by decide
    rw [e]
    clear e
    go_enter Tryd.func12, Tryd.ntmps12
    go_wp2
    go_ret
    exact ⟨rfl, rfl⟩
  by_cases h3 : l = [98, 97, 115, 105, 99, 104, 116, 116, 112]
  · subst h3
    have e : processor [98, 97, 115, 105, 99, 104, 116, 116, 112] = 2 := by decide
    rw [e]
    clear e
    go_enter Tryd.func12, Tryd.ntmps12
    go_wp2
    go_ret
    exact ⟨rfl, rfl⟩
  by_cases h4 : l = [104, 116, 116, 112, 58, 47, 47, 119, 119, 119, 46, 119, 51, 46, 111, 114, 103, 47, 84, 82, 47, 115, 99, 120, 109, 108, 47, 35, 66, 97, 115, 105, 99, 72, 84, 84, 80, 69, 118, 101, 110, 116, 80, 114, 111, 99, 101, 115, 115, 111, 114]
  · subst h4
    have e : processor [104, 116, 116, 112, 58, 47, 47, 119, 119, 119, 46, 119, 51, 46, 111, 114, 103, 47, 84, 82, 47, 115, 99, 120, 109, 108, 47, 35, 66, 97, 115, 105, 99, 72, 84, 84, 80, 69, 118, 101, 110, 116, 80, 114, 111, 99, 101, 115, 115, 111, 114] = 2 := by decide
    rw [e]
    clear e
    go_enter Tryd.func12, Tryd.ntmps12
    go_wp2
    go_ret
    exact ⟨rfl, rfl⟩
  have e : processor l = 0 := by
    unfold processor
    rw [if_neg (by simp only [not_or]; exact ⟨h0, h1, h2⟩), if_neg (by simp only [not_or]; exact ⟨h3, h4⟩)]
  rw [e]
  have q0 := isEmpty_no h0
  have q1 := beq_no h1
  have q2 := beq_no h2
  have q3 := beq_no h3
  have q4 := beq_no h4
  clear e h0 h1 h2 h3 h4
  go_enter Tryd.func12, Tryd.ntmps12
  go_wp2
  go_ret
  exact ⟨rfl, rfl⟩
/-- letters and the marks that a text lists -/
def ixB (more : Bytes) (b : Nat) : Int := Lib.indexByte more ((b : Int).toNat.toUInt8)
def letB (more : Bytes) (b : Nat) : Bool := alnumB b || decide (0 ≤ ixB more b)
def okLet (more s : Bytes) : Bool := s.all (fun c => letB more c.toNat) && decide (0 < s.length) && decide (s.length ≤ 64)
theorem or32u (b : Nat) (hb : b < 256) : bits .or .u8 (b : Int) 32 = ((b ||| 32 : Nat) : Int) := by
  have H : ∀ b : Fin 256, bits .or .u8 (b.val : Int) 32 = ((b.val ||| 32 : Nat) : Int) := by decide +kernel
  exact H ⟨b, hb⟩
theorem or32_iff (b : Nat) (hb : b < 256) : (97 ≤ (b ||| 32) ∧ (b ||| 32) ≤ 122) ↔ ((97 ≤ b ∧ b ≤ 122) ∨ (65 ≤ b ∧ b ≤ 90)) := by
  have H : ∀ b : Fin 256, (97 ≤ (b.val ||| 32) ∧ (b.val ||| 32) ≤ 122) ↔ ((97 ≤ b.val ∧ b.val ≤ 122) ∨ (65 ≤ b.val ∧ b.val ≤ 90)) := by decide +kernel
  exact H ⟨b, hb⟩
theorem ixb_any (more : Bytes) (b : Nat) (w : World) : Calls Tryd.prog 26 #[.string ⟨more.toArray⟩, .int .u8 b] w fun e w' => e = .returned (.int .i64 (ixB more b)) ∧ w = w' := by
  refine (Tryd.strings_IndexByte _ _ _).mono ?_
  rintro e w' ⟨rfl, rfl⟩
  exact ⟨rfl, rfl⟩
theorem all_step {p : UInt8 → Bool} {l : Bytes} {n : Nat} (hn : n < l.length) (h : ∀ j, j < n → p (l.getD j 0) = true) (hp : p (l.getD n 0) = true) : ∀ j, j < n + 1 → p (l.getD j 0) = true := fun j hj => by
  by_cases e : j = n
  · rw [e]; exact hp
  · exact h j (by omega)
theorem all_of {p : UInt8 → Bool} {l : Bytes} (h : ∀ j, j < l.length → p (l.getD j 0) = true) : l.all p = true := by
  rw [List.all_eq_true]
  intro x hx
  obtain ⟨j, hj, rfl⟩ := List.getElem_of_mem hx
  have := h j hj
  simpa [List.getD_eq_getElem?_getD, hj] using this
theorem all_not {p : UInt8 → Bool} {l : Bytes} {n : Nat} (hn : n < l.length) (h : p (l.getD n 0) = false) : l.all p = false := by
  rw [Bool.eq_false_iff]
  intro ha
  have := List.all_eq_true.1 ha (l.getD n 0) (by simp [List.getD_eq_getElem?_getD, hn])
  rw [h] at this
  cases this
set_option maxRecDepth 100000 in
set_option maxHeartbeats 4000000 in
theorem letters_any (l more : Bytes) (w : World) (hs : l.length ≤ 140737488351232) :
    Calls Tryd.prog 29 #[.string ⟨l.toArray⟩, .string ⟨more.toArray⟩] w fun e w' => e = .returned (.bool (okLet more l)) ∧ w = w' := by
  go_enter Tryd.func29, Tryd.ntmps29
  go_wp2
  go_loop [9] (fun k => ∃ n : Nat, n ≤ l.length ∧ k = .int .i64 n ∧ Hid (∀ j, j < n → letB more (l.getD j 0).toNat = true)) (fun k => l.length + 1 - (intOf k).toNat)
  case atStart => exact ⟨0, by omega, rfl, Lib.hid (fun j h => by omega)⟩
  case round =>
    obtain ⟨n, hn, rfl, H⟩ := hrel
    by_cases hlt : n < l.length
    · have hlt' : (n : Int) < l.length := by omega
      have cb := by8_lt l n
      have q := or32u _ cb
      have M := Lib.hid (or32_iff _ cb)
      go_upto_region 5 with (fail)
      go_cut [6, 9, 37] from 9 to 38 (fun c k t wx => ∃ b, c = .int .u8 (by8 l n) ∧ k = .int .i64 n ∧ t = .bool b ∧ wx = w ∧ Hid ((!letB more (by8 l n)) = b))
      case first =>
        go_wp2_with (go_at_call 26; refine (ixb_any _ _ _).mono ?_; rintro e w' ⟨rfl, rfl⟩)
        all_goals
          go_meet
          refine ⟨_, rfl, rfl, rfl, rfl, Lib.hid ?_⟩
          have := M.out
          rw [Bool.eq_iff_iff]
          simp [letB, alnumB]
          omega
      case rest =>
        obtain ⟨b, rfl, rfl, rfl, rfl, HB⟩ := hcut
        have hp := HB.out
        rcases b with _ | _
        case false =>
          have HN := Lib.hid (all_step (p := fun c => letB more c.toNat) hlt H.out (show letB more (by8 l n) = true by simpa using hp))
          clear hp HB
          go_wp2
          go_round
          case rel => exact ⟨n + 1, by omega, by go_num, HN⟩
          case measure => simp [intOf]; omega
        case true =>
          have HN := Lib.hid (all_not (p := fun c => letB more c.toNat) hlt (show letB more (by8 l n) = false by simpa using hp))
          clear hp HB
          go_wp2
          go_ret
          exact ⟨by unfold okLet; rw [HN.out]; rfl, rfl⟩
    · obtain rfl : n = l.length := by omega
      have HN := Lib.hid (all_of (p := fun c => letB more c.toNat) H.out)
      have hlt' : decide (l.length < l.length) = false := by simp
      by_cases h0 : l = []
      · subst h0
        go_wp2
        go_ret
        exact ⟨by unfold okLet; simp, rfl⟩
      · have q0 := isEmpty_no h0
        have hpos := List.length_pos_iff.2 h0
        go_wp2
        all_goals
          go_ret
          refine ⟨?_, rfl⟩
          unfold okLet
          rw [HN.out, decide_eq_true hpos]
          simp
          omega
end Go.Proofs.YtjbfkalkcopapaaDoor
