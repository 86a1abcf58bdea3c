/- Those of the layer utf's contracts that this seat's dump has. -/
import Derived.Test.YtigfcchblfnnbaaGreatDoorChecked
import Derived.Test.YtigfcchblfnnbaaGreatDoorUtfPure
import Derived.Test.YtigfcchblfnnbaaGreatDoorUtX
import Derived.Test.YtigfcchblfnnbaaGreatDoorShelf
namespace Go.Proofs.YtigfcchblfnnbaaGreatDoor
open Go Go.RowKit
set_option linter.all false
theorem by8_ge (l : List UInt8) (i : Nat) (h : l.length ≤ i) : by8 l i = 0 := by
  unfold by8; rw [List.getD_eq_getElem?_getD, List.getElem?_eq_none (by omega)]; rfl
theorem chrN_bd (l : List UInt8) (i n c low : Nat) : (chrN l i n c low).1 ≤ 1114111 ∧ (chrN l i n c low).2 ≤ n := by
  unfold chrN
  split
  · rename_i h; exact ⟨h.2.2.2.1, Nat.le_refl _⟩
  · exact ⟨Nat.zero_le _, Nat.zero_le _⟩
theorem chr_bd (l : List UInt8) (i : Nat) : (chr l i).1 ≤ 1114111 ∧ (chr l i).2 ≤ 4 := by
  have := by8_lt l i
  unfold chr
  split
  · simp
  split
  · exact ⟨by simp only; omega, by simp⟩
  split
  · have := chrN_bd l i 2 (by8 l i - 192) 128; omega
  split
  · have := chrN_bd l i 3 (by8 l i - 224) 2048; omega
  split
  · have := chrN_bd l i 4 (by8 l i - 240) 65536; omega
  · simp
theorem decode_pos (s : ByteArray) (i : Nat) : 1 ≤ (Utf8.decode s i).2 := by
  unfold Utf8.decode
  simp only
  repeat' split
  all_goals simp
theorem next_in (l : List UInt8) (i : Nat) (w : World) (hT : Lib.Utf8Tabs 6 7 w) (h : i < l.length) :
    Calls Tryz.prog 68 #[.string ⟨l.toArray⟩, .int .i64 i] w fun e w' => e = .returned (.tuple #[.int .i64 (chr l i).1, .int .i64 (chr l i).2, .bool (decide (0 < (chr l i).2))]) ∧ Pur w w' := by
  have hd := chr_decode l i h
  have hc := (Tryz.utf8_DecodeRuneInString ⟨(sub l i l.length).toArray⟩ w hT)
  have hg : Lib.decodeGo ⟨(sub l i l.length).toArray⟩ = Utf8.decode ⟨(sub l i l.length).toArray⟩ 0 := by
    unfold Lib.decodeGo
    rw [if_neg]
    show ¬ (sub l i l.length).toArray.size = 0
    simp only [List.size_toArray, length_sub]; omega
  rw [← hg] at hd
  have hbd := chr_bd l i
  have hpos : 1 ≤ (Lib.decodeGo ⟨(sub l i l.length).toArray⟩).2 := by rw [hg]; exact decode_pos _ _
  clear hg
  generalize chr l i = q at *
  obtain ⟨c, n⟩ := q
  simp only at hbd ⊢
  generalize Lib.decodeGo ⟨(sub l i l.length).toArray⟩ = d at *
  obtain ⟨r, m⟩ := d
  simp only at hpos hc
  have hi : (i : Int) < l.length := by omega
  have HC := Lib.hid hc
  clear hc
  by_cases hbad : r = 65533 ∧ m = 1
  · obtain ⟨rfl, rfl⟩ := hbad
    rw [if_pos rfl] at hd
    simp only [Prod.mk.injEq] at hd
    obtain ⟨rfl, rfl⟩ := hd
    go_enter Tryz.func68, Tryz.ntmps68
    go_wp2_with (go_at_call 98; refine HC.out.mono ?_; rintro e w' ⟨rfl, hp⟩)
    go_ret3
    exact ⟨rfl, hp⟩
  · rw [if_neg (by simpa using hbad)] at hd
    simp only [Prod.mk.injEq] at hd
    obtain ⟨rfl, rfl⟩ := hd
    have hb : decide (0 < m) = true := by simp; omega
    rw [hb]
    clear hb hpos
    by_cases hr : r = 65533
    · have hm : ((m : Int) == 1) = false := by simp; omega
      have hr' : ((r : Int) == 65533) = true := by simp; omega
      clear hbad hr
      go_enter Tryz.func68, Tryz.ntmps68
      go_wp2_with (go_at_call 98; refine HC.out.mono ?_; rintro e w' ⟨rfl, hp⟩)
      go_ret3
      exact ⟨rfl, hp⟩
    · have hr' : ((r : Int) == 65533) = false := by simp; omega
      clear hbad hr
      go_enter Tryz.func68, Tryz.ntmps68
      go_wp2_with (go_at_call 98; refine HC.out.mono ?_; rintro e w' ⟨rfl, hp⟩)
      go_ret3
      exact ⟨rfl, hp⟩
theorem chrN_succ (l : List UInt8) (i m c low : Nat) : chrN l i (m + 1) c low = if i + (m + 1) ≤ l.length ∧ contB l i m = true ∧ low ≤ valB l i c m ∧ valB l i c m ≤ 1114111 ∧ ¬ (55296 ≤ valB l i c m ∧ valB l i c m < 57344) then (valB l i c m, m + 1) else (0, 0) := rfl
theorem contB_le (l : List UInt8) (i : Nat) {a b : Nat} (h : a ≤ b) (hb : contB l i b = true) : contB l i a = true := by
  induction b with
  | zero => obtain rfl : a = 0 := by omega
            exact hb
  | succ b ih =>
    by_cases he : a = b + 1
    · subst he; exact hb
    · have hb' : (contB l i b && (decide (128 ≤ by8 l (i + b + 1)) && decide (by8 l (i + b + 1) < 192))) = true := hb
      rw [Bool.and_eq_true] at hb'
      exact ih (by omega) hb'.1
theorem valB_le (l : List UInt8) (i c m : Nat) (hc : c < 32) (hm : m ≤ 3) (h : contB l i m = true) : valB l i c m < 8388608 := by
  have h1 := valB_lt l i c hc m h
  have h2 : 64 ^ m ≤ 64 ^ 3 := Nat.pow_le_pow_right (by decide) hm
  omega
set_option maxRecDepth 100000 in
set_option maxHeartbeats 400000 in
theorem rchar_2 (l : List UInt8) (i : Nat) (w : World) (hs : l.length ≤ 4611686018427387903) (hi : (i : Int) < l.length) (l0 : by8 l i < 256) (c : Nat) (hc : c < 32) (hfit : i + 2 ≤ l.length) (HQ : Hid (chr l i = chrN l i 2 c 128)) (h1 : 192 ≤ by8 l i) (h2 : by8 l i < 224) (h3 : by8 l i = c + 192) :
    Calls Tryz.prog 25 #[.string ⟨l.toArray⟩, .int .i64 i] w fun e w' => e = .returned (.tuple #[.int .i64 (chr l i).1, .int .i64 (chr l i).2]) ∧ w = w' := by
  have H3 := Lib.hid h3
  clear h3
  have d0 : decide ((i : Int) < 0) = false := by simp <;> omega
  have d1 : decide ((by8 l i : Int) < 128) = false := by simp <;> omega
  have d2 : decide ((l.length : Int) < (i : Int) + 2) = false := by simp <;> omega
  have d3 : decide ((by8 l i : Int) < 224) = true := by simp <;> omega
  go_enter Tryz.func25, Tryz.ntmps25
  go_wp2
  go_loop [8, 10, 11] (fun cc k _ => ∃ m : Nat, m ≤ 1 ∧ k = .int .i64 (m + 1) ∧ cc = .int .i64 (valB l i c m) ∧ contB l i m = true) (fun _ k _ => 5 - (intOf k).toNat)
  case atStart => exact ⟨0, by omega, rfl, by have := H3.out; show Value.int .i64 _ = Value.int .i64 ((c : Nat) : Int); congr 1; omega, rfl⟩
  case round =>
    obtain ⟨m, hm, rfl, rfl, hct⟩ := hrel
    have hv := valB_le l i c m hc (by omega) hct
    have HC := Lib.hid hct
    clear hct
    by_cases hlt : m < 1
    · have hx := by8_lt l (i + (m + 1))
      by_cases hx1 : by8 l (i + (m + 1)) < 128
      · have hq0 : chr l i = (0, 0) := by
          rw [HQ.out, chrN, if_neg]
          rintro ⟨_, hcb, _⟩
          have := contB_le l i (a := m + 1) (by omega) hcb
          rw [contB] at this
          simp only [Bool.and_eq_true, decide_eq_true_eq] at this
          have h9 : 128 ≤ by8 l (i + (m + 1)) := this.2.1
          omega
        have HQ0 := Lib.hid hq0
        clear hq0
        go_wp2
        go_ret2
        exact ⟨by rw [HQ0.out]; rfl, rfl⟩
      by_cases hx2 : 192 ≤ by8 l (i + (m + 1))
      · have hq0 : chr l i = (0, 0) := by
          rw [HQ.out, chrN, if_neg]
          rintro ⟨_, hcb, _⟩
          have := contB_le l i (a := m + 1) (by omega) hcb
          rw [contB] at this
          simp only [Bool.and_eq_true, decide_eq_true_eq] at this
          have h9 : by8 l (i + (m + 1)) < 192 := this.2.2
          omega
        have HQ0 := Lib.hid hq0
        clear hq0
        go_wp2
        go_ret2
        exact ⟨by rw [HQ0.out]; rfl, rfl⟩
      have hv' : ((valB l i c (m + 1) : Nat) : Int) = (valB l i c m : Int) * 64 + (by8 l (i + (m + 1)) : Int) - 128 := by
        show ((valB l i c m * 64 + by8 l (i + (m + 1)) - 128 : Nat) : Int) = _
        omega
      have HV := Lib.hid hv'
      clear hv'
      go_wp2
      go_round
      case rel =>
        refine ⟨m + 1, by omega, by go_num, by rw [HV.out], ?_⟩
        rw [contB, HC.out]
        simp only [Bool.true_and, Bool.and_eq_true, decide_eq_true_eq]
        exact ⟨by have : by8 l (i + (m + 1)) = by8 l (i + m + 1) := rfl; omega, by have : by8 l (i + (m + 1)) = by8 l (i + m + 1) := rfl; omega⟩
      case measure => simp [intOf]; omega
    · obtain rfl : m = 1 := by omega
      by_cases hok : (128 ≤ (valB l i c 1 : Int) ∧ (valB l i c 1 : Int) ≤ 1114111) ∧ ((valB l i c 1 : Int) < 55296 ∨ 57344 ≤ (valB l i c 1 : Int))
      · have hq1 : chr l i = (valB l i c 1, 2) := HQ.out.trans ((chrN_succ l i 1 c 128).trans (if_pos ⟨hfit, HC.out, by omega, by omega, by omega⟩))
        have HQ1 := Lib.hid hq1
        clear hq1
        obtain ⟨⟨h4, h5⟩, h6⟩ := hok
        rcases h6 with h6 | h6
        · have d6 : decide ((valB l i c 1 : Int) < 128) = false := by simp; omega
          have d7 : decide ((1114111 : Int) < (valB l i c 1 : Int)) = false := by simp; omega
          have d8 : decide (55296 ≤ (valB l i c 1 : Int)) = false := by simp; omega
          clear hlt h4 h5 h6
          go_wp2
          go_ret2
          exact ⟨by rw [HQ1.out]; rfl, rfl⟩
        · have d6 : decide ((valB l i c 1 : Int) < 128) = false := by simp; omega
          have d7 : decide ((1114111 : Int) < (valB l i c 1 : Int)) = false := by simp; omega
          have d8 : decide (55296 ≤ (valB l i c 1 : Int)) = true := by simp; omega
          have d9 : decide ((valB l i c 1 : Int) < 57344) = false := by simp; omega
          clear hlt h4 h5 h6
          go_wp2
          go_ret2
          exact ⟨by rw [HQ1.out]; rfl, rfl⟩
      · have hq0 : chr l i = (0, 0) := HQ.out.trans ((chrN_succ l i 1 c 128).trans (if_neg (by omega)))
        have HQ0 := Lib.hid hq0
        clear hq0
        by_cases h4 : (valB l i c 1 : Int) < 128
        · clear hok
          go_wp2
          go_ret2
          exact ⟨by rw [HQ0.out]; rfl, rfl⟩
        by_cases h5 : (1114111 : Int) < valB l i c 1
        · clear hok
          go_wp2
          go_ret2
          exact ⟨by rw [HQ0.out]; rfl, rfl⟩
        have h6 : 55296 ≤ (valB l i c 1 : Int) := by omega
        have h7 : (valB l i c 1 : Int) < 57344 := by omega
        clear hok
        go_wp2
        go_ret2
        exact ⟨by rw [HQ0.out]; rfl, rfl⟩
set_option maxRecDepth 100000 in
set_option maxHeartbeats 400000 in
theorem rchar_3 (l : List UInt8) (i : Nat) (w : World) (hs : l.length ≤ 4611686018427387903) (hi : (i : Int) < l.length) (l0 : by8 l i < 256) (c : Nat) (hc : c < 32) (hfit : i + 3 ≤ l.length) (HQ : Hid (chr l i = chrN l i 3 c 2048)) (h1 : 224 ≤ by8 l i) (h2 : by8 l i < 240) (h3 : by8 l i = c + 224) :
    Calls Tryz.prog 25 #[.string ⟨l.toArray⟩, .int .i64 i] w fun e w' => e = .returned (.tuple #[.int .i64 (chr l i).1, .int .i64 (chr l i).2]) ∧ w = w' := by
  have H3 := Lib.hid h3
  clear h3
  have d0 : decide ((i : Int) < 0) = false := by simp <;> omega
  have d1 : decide ((by8 l i : Int) < 128) = false := by simp <;> omega
  have d2 : decide ((l.length : Int) < (i : Int) + 3) = false := by simp <;> omega
  have d3 : decide ((by8 l i : Int) < 224) = false := by simp <;> omega
  have d4 : decide ((by8 l i : Int) < 240) = true := by simp <;> omega
  go_enter Tryz.func25, Tryz.ntmps25
  go_wp2
  go_loop [8, 10, 11] (fun cc k _ => ∃ m : Nat, m ≤ 2 ∧ k = .int .i64 (m + 1) ∧ cc = .int .i64 (valB l i c m) ∧ contB l i m = true) (fun _ k _ => 5 - (intOf k).toNat)
  case atStart => exact ⟨0, by omega, rfl, by have := H3.out; show Value.int .i64 _ = Value.int .i64 ((c : Nat) : Int); congr 1; omega, rfl⟩
  case round =>
    obtain ⟨m, hm, rfl, rfl, hct⟩ := hrel
    have hv := valB_le l i c m hc (by omega) hct
    have HC := Lib.hid hct
    clear hct
    by_cases hlt : m < 2
    · have hx := by8_lt l (i + (m + 1))
      by_cases hx1 : by8 l (i + (m + 1)) < 128
      · have hq0 : chr l i = (0, 0) := by
          rw [HQ.out, chrN, if_neg]
          rintro ⟨_, hcb, _⟩
          have := contB_le l i (a := m + 1) (by omega) hcb
          rw [contB] at this
          simp only [Bool.and_eq_true, decide_eq_true_eq] at this
          have h9 : 128 ≤ by8 l (i + (m + 1)) := this.2.1
          omega
        have HQ0 := Lib.hid hq0
        clear hq0
        go_wp2
        go_ret2
        exact ⟨by rw [HQ0.out]; rfl, rfl⟩
      by_cases hx2 : 192 ≤ by8 l (i + (m + 1))
      · have hq0 : chr l i = (0, 0) := by
          rw [HQ.out, chrN, if_neg]
          rintro ⟨_, hcb, _⟩
          have := contB_le l i (a := m + 1) (by omega) hcb
          rw [contB] at this
          simp only [Bool.and_eq_true, decide_eq_true_eq] at this
          have h9 : by8 l (i + (m + 1)) < 192 := this.2.2
          omega
        have HQ0 := Lib.hid hq0
        clear hq0
        go_wp2
        go_ret2
        exact ⟨by rw [HQ0.out]; rfl, rfl⟩
      have hv' : ((valB l i c (m + 1) : Nat) : Int) = (valB l i c m : Int) * 64 + (by8 l (i + (m + 1)) : Int) - 128 := by
        show ((valB l i c m * 64 + by8 l (i + (m + 1)) - 128 : Nat) : Int) = _
        omega
      have HV := Lib.hid hv'
      clear hv'
      go_wp2
      go_round
      case rel =>
        refine ⟨m + 1, by omega, by go_num, by rw [HV.out], ?_⟩
        rw [contB, HC.out]
        simp only [Bool.true_and, Bool.and_eq_true, decide_eq_true_eq]
        exact ⟨by have : by8 l (i + (m + 1)) = by8 l (i + m + 1) := rfl; omega, by have : by8 l (i + (m + 1)) = by8 l (i + m + 1) := rfl; omega⟩
      case measure => simp [intOf]; omega
    · obtain rfl : m = 2 := by omega
      by_cases hok : (2048 ≤ (valB l i c 2 : Int) ∧ (valB l i c 2 : Int) ≤ 1114111) ∧ ((valB l i c 2 : Int) < 55296 ∨ 57344 ≤ (valB l i c 2 : Int))
      · have hq1 : chr l i = (valB l i c 2, 3) := HQ.out.trans ((chrN_succ l i 2 c 2048).trans (if_pos ⟨hfit, HC.out, by omega, by omega, by omega⟩))
        have HQ1 := Lib.hid hq1
        clear hq1
        obtain ⟨⟨h4, h5⟩, h6⟩ := hok
        rcases h6 with h6 | h6
        · have d6 : decide ((valB l i c 2 : Int) < 2048) = false := by simp; omega
          have d7 : decide ((1114111 : Int) < (valB l i c 2 : Int)) = false := by simp; omega
          have d8 : decide (55296 ≤ (valB l i c 2 : Int)) = false := by simp; omega
          clear hlt h4 h5 h6
          go_wp2
          go_ret2
          exact ⟨by rw [HQ1.out]; rfl, rfl⟩
        · have d6 : decide ((valB l i c 2 : Int) < 2048) = false := by simp; omega
          have d7 : decide ((1114111 : Int) < (valB l i c 2 : Int)) = false := by simp; omega
          have d8 : decide (55296 ≤ (valB l i c 2 : Int)) = true := by simp; omega
          have d9 : decide ((valB l i c 2 : Int) < 57344) = false := by simp; omega
          clear hlt h4 h5 h6
          go_wp2
          go_ret2
          exact ⟨by rw [HQ1.out]; rfl, rfl⟩
      · have hq0 : chr l i = (0, 0) := HQ.out.trans ((chrN_succ l i 2 c 2048).trans (if_neg (by omega)))
        have HQ0 := Lib.hid hq0
        clear hq0
        by_cases h4 : (valB l i c 2 : Int) < 2048
        · clear hok
          go_wp2
          go_ret2
          exact ⟨by rw [HQ0.out]; rfl, rfl⟩
        by_cases h5 : (1114111 : Int) < valB l i c 2
        · clear hok
          go_wp2
          go_ret2
          exact ⟨by rw [HQ0.out]; rfl, rfl⟩
        have h6 : 55296 ≤ (valB l i c 2 : Int) := by omega
        have h7 : (valB l i c 2 : Int) < 57344 := by omega
        clear hok
        go_wp2
        go_ret2
        exact ⟨by rw [HQ0.out]; rfl, rfl⟩
set_option maxRecDepth 100000 in
set_option maxHeartbeats 400000 in
theorem rchar_4 (l : List UInt8) (i : Nat) (w : World) (hs : l.length ≤ 4611686018427387903) (hi : (i : Int) < l.length) (l0 : by8 l i < 256) (c : Nat) (hc : c < 32) (hfit : i + 4 ≤ l.length) (HQ : Hid (chr l i = chrN l i 4 c 65536)) (h1 : 240 ≤ by8 l i) (h2 : by8 l i < 248) (h3 : by8 l i = c + 240) :
    Calls Tryz.prog 25 #[.string ⟨l.toArray⟩, .int .i64 i] w fun e w' => e = .returned (.tuple #[.int .i64 (chr l i).1, .int .i64 (chr l i).2]) ∧ w = w' := by
  have H3 := Lib.hid h3
  clear h3
  have d0 : decide ((i : Int) < 0) = false := by simp <;> omega
  have d1 : decide ((by8 l i : Int) < 128) = false := by simp <;> omega
  have d2 : decide ((l.length : Int) < (i : Int) + 4) = false := by simp <;> omega
  have d3 : decide ((by8 l i : Int) < 224) = false := by simp <;> omega
  have d4 : decide ((by8 l i : Int) < 240) = false := by simp <;> omega
  have d5 : decide ((by8 l i : Int) < 248) = true := by simp <;> omega
  go_enter Tryz.func25, Tryz.ntmps25
  go_wp2
  go_loop [8, 10, 11] (fun cc k _ => ∃ m : Nat, m ≤ 3 ∧ k = .int .i64 (m + 1) ∧ cc = .int .i64 (valB l i c m) ∧ contB l i m = true) (fun _ k _ => 5 - (intOf k).toNat)
  case atStart => exact ⟨0, by omega, rfl, by have := H3.out; show Value.int .i64 _ = Value.int .i64 ((c : Nat) : Int); congr 1; omega, rfl⟩
  case round =>
    obtain ⟨m, hm, rfl, rfl, hct⟩ := hrel
    have hv := valB_le l i c m hc (by omega) hct
    have HC := Lib.hid hct
    clear hct
    by_cases hlt : m < 3
    · have hx := by8_lt l (i + (m + 1))
      by_cases hx1 : by8 l (i + (m + 1)) < 128
      · have hq0 : chr l i = (0, 0) := by
          rw [HQ.out, chrN, if_neg]
          rintro ⟨_, hcb, _⟩
          have := contB_le l i (a := m + 1) (by omega) hcb
          rw [contB] at this
          simp only [Bool.and_eq_true, decide_eq_true_eq] at this
          have h9 : 128 ≤ by8 l (i + (m + 1)) := this.2.1
          omega
        have HQ0 := Lib.hid hq0
        clear hq0
        go_wp2
        go_ret2
        exact ⟨by rw [HQ0.out]; rfl, rfl⟩
      by_cases hx2 : 192 ≤ by8 l (i + (m + 1))
      · have hq0 : chr l i = (0, 0) := by
          rw [HQ.out, chrN, if_neg]
          rintro ⟨_, hcb, _⟩
          have := contB_le l i (a := m + 1) (by omega) hcb
          rw [contB] at this
          simp only [Bool.and_eq_true, decide_eq_true_eq] at this
          have h9 : by8 l (i + (m + 1)) < 192 := this.2.2
          omega
        have HQ0 := Lib.hid hq0
        clear hq0
        go_wp2
        go_ret2
        exact ⟨by rw [HQ0.out]; rfl, rfl⟩
      have hv' : ((valB l i c (m + 1) : Nat) : Int) = (valB l i c m : Int) * 64 + (by8 l (i + (m + 1)) : Int) - 128 := by
        show ((valB l i c m * 64 + by8 l (i + (m + 1)) - 128 : Nat) : Int) = _
        omega
      have HV := Lib.hid hv'
      clear hv'
      go_wp2
      go_round
      case rel =>
        refine ⟨m + 1, by omega, by go_num, by rw [HV.out], ?_⟩
        rw [contB, HC.out]
        simp only [Bool.true_and, Bool.and_eq_true, decide_eq_true_eq]
        exact ⟨by have : by8 l (i + (m + 1)) = by8 l (i + m + 1) := rfl; omega, by have : by8 l (i + (m + 1)) = by8 l (i + m + 1) := rfl; omega⟩
      case measure => simp [intOf]; omega
    · obtain rfl : m = 3 := by omega
      by_cases hok : (65536 ≤ (valB l i c 3 : Int) ∧ (valB l i c 3 : Int) ≤ 1114111) ∧ ((valB l i c 3 : Int) < 55296 ∨ 57344 ≤ (valB l i c 3 : Int))
      · have hq1 : chr l i = (valB l i c 3, 4) := HQ.out.trans ((chrN_succ l i 3 c 65536).trans (if_pos ⟨hfit, HC.out, by omega, by omega, by omega⟩))
        have HQ1 := Lib.hid hq1
        clear hq1
        obtain ⟨⟨h4, h5⟩, h6⟩ := hok
        rcases h6 with h6 | h6
        · have d6 : decide ((valB l i c 3 : Int) < 65536) = false := by simp; omega
          have d7 : decide ((1114111 : Int) < (valB l i c 3 : Int)) = false := by simp; omega
          have d8 : decide (55296 ≤ (valB l i c 3 : Int)) = false := by simp; omega
          clear hlt h4 h5 h6
          go_wp2
          go_ret2
          exact ⟨by rw [HQ1.out]; rfl, rfl⟩
        · have d6 : decide ((valB l i c 3 : Int) < 65536) = false := by simp; omega
          have d7 : decide ((1114111 : Int) < (valB l i c 3 : Int)) = false := by simp; omega
          have d8 : decide (55296 ≤ (valB l i c 3 : Int)) = true := by simp; omega
          have d9 : decide ((valB l i c 3 : Int) < 57344) = false := by simp; omega
          clear hlt h4 h5 h6
          go_wp2
          go_ret2
          exact ⟨by rw [HQ1.out]; rfl, rfl⟩
      · have hq0 : chr l i = (0, 0) := HQ.out.trans ((chrN_succ l i 3 c 65536).trans (if_neg (by omega)))
        have HQ0 := Lib.hid hq0
        clear hq0
        by_cases h4 : (valB l i c 3 : Int) < 65536
        · clear hok
          go_wp2
          go_ret2
          exact ⟨by rw [HQ0.out]; rfl, rfl⟩
        by_cases h5 : (1114111 : Int) < valB l i c 3
        · clear hok
          go_wp2
          go_ret2
          exact ⟨by rw [HQ0.out]; rfl, rfl⟩
        have h6 : 55296 ≤ (valB l i c 3 : Int) := by omega
        have h7 : (valB l i c 3 : Int) < 57344 := by omega
        clear hok
        go_wp2
        go_ret2
        exact ⟨by rw [HQ0.out]; rfl, rfl⟩
set_option maxRecDepth 100000 in
theorem rchar_in (l : List UInt8) (i : Nat) (w : World) (hs : l.length ≤ 4611686018427387903) (h : i < l.length) :
    Calls Tryz.prog 25 #[.string ⟨l.toArray⟩, .int .i64 i] w fun e w' => e = .returned (.tuple #[.int .i64 (chr l i).1, .int .i64 (chr l i).2]) ∧ w = w' := by
  have hi : (i : Int) < l.length := by omega
  have l0 := by8_lt l i
  have hq : chr l i = (if by8 l i < 128 then (by8 l i, 1)
      else if 192 ≤ by8 l i ∧ by8 l i < 224 then chrN l i 2 (by8 l i - 192) 128
      else if 224 ≤ by8 l i ∧ by8 l i < 240 then chrN l i 3 (by8 l i - 224) 2048
      else if 240 ≤ by8 l i ∧ by8 l i < 248 then chrN l i 4 (by8 l i - 240) 65536
      else (0, 0)) := by rw [chr, if_neg (by omega)]
  by_cases h0 : by8 l i < 128
  · rw [if_pos h0] at hq
    rw [hq]
    clear hq
    go_enter Tryz.func25, Tryz.ntmps25
    go_wp2
    go_ret2
    exact ⟨rfl, rfl⟩
  rw [if_neg h0] at hq
  by_cases hbad : by8 l i < 192 ∨ 248 ≤ by8 l i
  · rw [if_neg (by omega), if_neg (by omega), if_neg (by omega)] at hq
    rw [hq]
    clear hq
    rcases hbad with hb | hb
    all_goals
      go_enter Tryz.func25, Tryz.ntmps25
      go_wp2
      go_ret2
      exact ⟨rfl, rfl⟩
  have h3 : ∃ n c low : Nat, chr l i = chrN l i n c low ∧ c < 32 ∧ 2 ≤ n ∧ n ≤ 4 ∧ ((n = 2 ∧ low = 128 ∧ 192 ≤ by8 l i ∧ by8 l i < 224 ∧ by8 l i = c + 192) ∨ (n = 3 ∧ low = 2048 ∧ 224 ≤ by8 l i ∧ by8 l i < 240 ∧ by8 l i = c + 224) ∨ (n = 4 ∧ low = 65536 ∧ 240 ≤ by8 l i ∧ by8 l i < 248 ∧ by8 l i = c + 240)) := by
    by_cases h1 : 192 ≤ by8 l i ∧ by8 l i < 224
    · rw [if_pos h1] at hq; exact ⟨2, _, 128, hq, by omega, by omega, by omega, .inl ⟨rfl, rfl, h1.1, h1.2, by omega⟩⟩
    rw [if_neg h1] at hq
    by_cases h2 : 224 ≤ by8 l i ∧ by8 l i < 240
    · rw [if_pos h2] at hq; exact ⟨3, _, 2048, hq, by omega, by omega, by omega, .inr (.inl ⟨rfl, rfl, h2.1, h2.2, by omega⟩)⟩
    rw [if_neg h2, if_pos (by omega)] at hq
    exact ⟨4, _, 65536, hq, by omega, by omega, by omega, .inr (.inr ⟨rfl, rfl, by omega, by omega, by omega⟩)⟩
  obtain ⟨n, c, low, hq', hc, hn2, hn4, hcase⟩ := h3
  clear hq hbad h0
  have HQ := Lib.hid hq'
  clear hq'
  by_cases hfit : i + n ≤ l.length
  · rcases hcase with ⟨rfl, rfl, h1, h2, h3⟩ | ⟨rfl, rfl, h1, h2, h3⟩ | ⟨rfl, rfl, h1, h2, h3⟩
    · exact rchar_2 l i w hs hi l0 c hc hfit HQ h1 h2 h3
    · exact rchar_3 l i w hs hi l0 c hc hfit HQ h1 h2 h3
    · exact rchar_4 l i w hs hi l0 c hc hfit HQ h1 h2 h3
  · have hq0 : chr l i = (0, 0) := by rw [HQ.out, chrN, if_neg (fun hh => hfit hh.1)]
    rw [hq0]
    clear hq0
    rcases hcase with ⟨rfl, rfl, h1, h2, h3⟩ | ⟨rfl, rfl, h1, h2, h3⟩ | ⟨rfl, rfl, h1, h2, h3⟩
    all_goals
      clear h3
      go_enter Tryz.func25, Tryz.ntmps25
      go_wp2
      go_ret2
      exact ⟨rfl, rfl⟩
/-- bytes as they lie in a row -/
def bv (l : List UInt8) : List Value := l.map fun b => Value.int .u8 (b.toNat : Int)
theorem infoU8 : (Tryz.prog.info? 5).map (fun i => (i.zero, i.size, i.bytes)) = some (some (.int .u8 0), 1, 1) := by kernel_rfl
theorem ofNat_toNat (n : Nat) (h : n < 256) : ((UInt8.ofNat n).toNat : Int) = (n : Int) := by rw [UInt8.toNat_ofNat', Nat.mod_eq_of_lt h]
theorem bv_enc (c : Nat) (h : okc c) : bv (enc c) = Lib.runeCells (c : Int) := by
  unfold okc at h
  unfold enc Lib.runeCells bv
  split
  · rw [Lib.encodeRuneZ_one (by omega) (by omega)]
    simp only [List.map_cons, List.map_nil]
    rw [ofNat_toNat _ (by omega)]
  split
  · rw [Lib.encodeRuneZ_two (by omega) (by omega)]
    simp only [List.map_cons, List.map_nil]
    rw [ofNat_toNat _ (by omega), ofNat_toNat _ (by omega)]
    rfl
  split
  · rw [Lib.encodeRuneZ_three (by omega)]
    simp only [List.map_cons, List.map_nil]
    rw [ofNat_toNat _ (by omega), ofNat_toNat _ (by omega), ofNat_toNat _ (by omega)]
    rfl
  · rw [Lib.encodeRuneZ_four (by omega) (by omega)]
    simp only [List.map_cons, List.map_nil]
    rw [ofNat_toNat _ (by omega), ofNat_toNat _ (by omega), ofNat_toNat _ (by omega), ofNat_toNat _ (by omega)]
    rfl
end Go.Proofs.YtigfcchblfnnbaaGreatDoor
