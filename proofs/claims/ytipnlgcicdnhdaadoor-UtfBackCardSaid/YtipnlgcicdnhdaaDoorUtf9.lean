/- The laws UtfTurns, UtfNext, UtfCuts, UtfCases, UtfJoins: each call returns true, and turns nothing that was there. -/
import Derived.Test.YtipnlgcicdnhdaaDoorUtf8
namespace Go.Proofs.YtipnlgcicdnhdaaDoor
open Go Go.RowKit
theorem turns_any (l m : List UInt8) (w : World) (hT : Lib.Utf8Tabs 0 1 w) (hl : l.length ≤ 140737488351232) (hm : m.length ≤ 140737488351232) :
    Calls Tryd.prog 3 #[.string ⟨l.toArray⟩, .string ⟨m.toArray⟩] w fun e w' => e = .returned (.bool true) ∧ Pur w w' := by
  have HT := Lib.hid hT
  clear hT
  by_cases h1 : l.length ≤ 4000
  · by_cases h2 : m.length ≤ 4000
    · go_enter Tryd.func3, Tryd.ntmps3
      go_wp2_with fail
      refine (awake_any _ HT.out).mono ?_
      rintro e w1 ⟨rfl, hp1⟩
      go_wp2_with fail
      refine (wide_any l _ (Utf8Tabs_below HT.out hp1) (by omega)).mono ?_
      rintro e w2 ⟨rfl, hp2⟩
      go_wp2_with fail
      refine (rwide_any l _ (by omega)).mono ?_
      rintro e w3 ⟨rfl, hp3⟩
      go_wp2_with fail
      refine (narrow_any m _ (by omega)).mono ?_
      rintro e w4 ⟨rfl, hp4⟩
      go_wp2_with fail
      refine (rnarrow_any m _ (by omega)).mono ?_
      rintro e w5 ⟨rfl, hp5⟩
      go_wp2
      go_ret
      exact ⟨rfl, (((hp1.trans hp2).trans hp3).trans hp4).trans hp5⟩
    · have h3 : 4000 < (m.length : Int) := by omega
      clear h2
      go_enter Tryd.func3, Tryd.ntmps3
      go_wp2_with fail
      refine (awake_any _ HT.out).mono ?_
      rintro e w1 ⟨rfl, hp1⟩
      go_wp2
      go_ret
      exact ⟨rfl, hp1⟩
  · have h3 : 4000 < (l.length : Int) := by omega
    clear h1
    go_enter Tryd.func3, Tryd.ntmps3
    go_wp2_with fail
    refine (awake_any _ HT.out).mono ?_
    rintro e w1 ⟨rfl, hp1⟩
    go_wp2
    go_ret
    exact ⟨rfl, hp1⟩
theorem next_law (l : List UInt8) (i : Int) (w : World) (hT : Lib.Utf8Tabs 0 1 w) (hl : l.length ≤ 140737488351232) :
    Calls Tryd.prog 4 #[.string ⟨l.toArray⟩, .int .i64 i] w fun e w' => e = .returned (.bool true) ∧ Pur w w' := by
  have HT := Lib.hid hT
  clear hT
  by_cases h : 0 ≤ i ∧ i < l.length
  · obtain ⟨n, rfl⟩ := Int.eq_ofNat_of_zero_le h.1
    have hn : n < l.length := by omega
    clear h
    go_enter Tryd.func4, Tryd.ntmps4
    go_wp2_with fail
    refine (awake_any _ HT.out).mono ?_
    rintro e w1 ⟨rfl, hp1⟩
    go_wp2_with fail
    refine (next_in l n _ (Utf8Tabs_below HT.out hp1) hn).mono ?_
    rintro e w2 ⟨rfl, hp2⟩
    go_wp2_with fail
    refine (rchar_in l n _ (by omega) hn).mono ?_
    rintro e w3 ⟨rfl, rfl⟩
    go_wp2
    go_ret
    exact ⟨rfl, hp1.trans hp2⟩
  · have h' : i < 0 ∨ (l.length : Int) ≤ i := by omega
    clear h
    have H := Lib.hid h'
    clear h'
    go_enter Tryd.func4, Tryd.ntmps4
    go_wp2_with fail
    refine (awake_any _ HT.out).mono ?_
    rintro e w1 ⟨rfl, hp1⟩
    go_wp2_with fail
    refine (next_out l i _ H.out).mono ?_
    rintro e w2 ⟨rfl, hp2⟩
    go_wp2_with fail
    refine (rchar_out l i _ H.out).mono ?_
    rintro e w3 ⟨rfl, rfl⟩
    go_wp2
    go_ret
    exact ⟨rfl, hp1.trans hp2⟩
theorem cutU_nat (l : List UInt8) (i j : Nat) (hi : i ≤ l.length / 2) (hj : j ≤ l.length / 2) : cutU l i j = sub l (2 * i) (2 * j) := by
  rw [cutU, show clamp (i : Int) (l.length / 2) = i by unfold clamp; omega, show clamp (j : Int) (l.length / 2) = j by unfold clamp; omega]
theorem cutU_all (l : List UInt8) (k : Nat) (h : l.length % 2 = 0) (hk : k ≤ l.length / 2) : cutU l 0 k ++ cutU l k (l.length / 2 : Nat) = l ∧ (cutU l 0 k).length = 2 * k ∧ (cutU l k (l.length / 2 : Nat)).length = l.length - 2 * k := by
  have e1 : cutU l 0 k = sub l 0 (2 * k) := cutU_nat l 0 k (by omega) hk
  have e2 : cutU l k (l.length / 2 : Nat) = sub l (2 * k) l.length := by rw [cutU_nat l k _ hk (Nat.le_refl _)]; congr 1; omega
  rw [e1, e2, sub_append l (Nat.zero_le _) (by omega), length_sub, length_sub, sub_all l (Nat.le_refl _)]
  exact ⟨rfl, by omega, by omega⟩
theorem cuts_law (l : List UInt8) (k : Int) (w : World) (hT : Lib.Utf8Tabs 0 1 w) (hl : l.length ≤ 140737488351232) (h0 : 0 ≤ k) (h1 : k < 65536) :
    Calls Tryd.prog 7 #[.string ⟨l.toArray⟩, .int .u16 k] w fun e w' => e = .returned (.bool true) ∧ Pur w w' := by
  have HT := Lib.hid hT
  clear hT
  by_cases hev : l.length % 2 = 0
  · have hd : (((l.length : Int) % 2) != 0) = false := by simp; omega
    obtain ⟨n, hn⟩ : ∃ n : Nat, (n : Int) = k % ((l.length : Int) / 2 + 1) := ⟨(k % ((l.length : Int) / 2 + 1)).toNat, Int.toNat_of_nonneg (Int.emod_nonneg _ (by omega))⟩
    have hn1 : n ≤ l.length / 2 := by
      have := Int.emod_lt_of_pos k (show 0 < (l.length : Int) / 2 + 1 by omega)
      omega
    obtain ⟨c1, c2, c3⟩ := cutU_all l n hev hn1
    have hk : k % ((l.length : Int) / 2 + 1) = n := hn.symm
    clear hn
    have C1 := Lib.hid c1
    have d1 : (cutU l 0 n ++ cutU l n (l.length / 2 : Nat) == l) = true := by rw [c1]; simp
    clear c1
    have q1 : 2 * ((l.length : Int) / 2) = l.length := by omega
    have bA : (cutU l 0 n).length ≤ 140737488351232 := by omega
    have bB : (cutU l n ((l.length : Int) / 2)).length ≤ 140737488351232 := by have : cutU l n ((l.length : Int) / 2) = cutU l n (l.length / 2 : Nat) := rfl; rw [this]; omega
    have d2 : (((cutU l 0 n).length : Int) / 2 == (n : Int)) = true := by rw [c2]; first | (simp; done) | (simp; omega)
    have d3 : (((cutU l n ((l.length : Int) / 2)).length : Int) / 2 == (l.length : Int) / 2 - (n : Int)) = true := by have : cutU l n ((l.length : Int) / 2) = cutU l n (l.length / 2 : Nat) := rfl; rw [this, c3]; simp; omega
    have d1' : (cutU l 0 n ++ cutU l n ((l.length : Int) / 2) == l) = true := d1
    have hn2 : (n : Int) ≤ (l.length : Int) / 2 := by omega
    clear c2 c3 hev d1 C1
    go_enter Tryd.func7, Tryd.ntmps7
    go_wp2_with fail
    refine (awake_any _ HT.out).mono ?_
    rintro e w1 ⟨rfl, hp1⟩
    go_wp2_with (go_at_call 18; refine (length_any _ _ (by omega)).mono ?_; rintro e w' ⟨rfl, rfl⟩)
    refine (cut_any _ _ _ _ (by omega)).mono ?_
    rintro e w2 ⟨rfl, hp2⟩
    go_wp2_with fail
    refine (cut_any _ _ _ _ (by omega)).mono ?_
    rintro e w3 ⟨rfl, hp3⟩
    go_wp2_with (go_at_call 18; refine (length_any _ _ (by omega)).mono ?_; rintro e w' ⟨rfl, rfl⟩)
    go_ret
    exact ⟨rfl, (hp1.trans hp2).trans hp3⟩
  · have hd : (((l.length : Int) % 2) != 0) = true := by simp; omega
    clear hev
    go_enter Tryd.func7, Tryd.ntmps7
    go_wp2_with fail
    refine (awake_any _ HT.out).mono ?_
    rintro e w1 ⟨rfl, hp1⟩
    go_wp2
    go_ret
    exact ⟨rfl, hp1⟩
end Go.Proofs.YtipnlgcicdnhdaaDoor
