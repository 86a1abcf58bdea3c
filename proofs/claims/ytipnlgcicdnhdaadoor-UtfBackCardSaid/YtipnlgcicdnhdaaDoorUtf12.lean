/- The law UtfBack: each call returns true, and turns nothing that was there. -/
import Derived.Test.YtipnlgcicdnhdaaDoorUtf11
import Derived.Test.YtipnlgcicdnhdaaDoorUtfPure5
namespace Go.Proofs.YtipnlgcicdnhdaaDoor
open Go Go.RowKit
theorem next_bad (l : List UInt8) (i : Nat) (h : (chr l i).2 = 0) : ∃ c d : Int, ∀ w, Lib.Utf8Tabs 0 1 w →
    Calls Tryd.prog 16 #[.string ⟨l.toArray⟩, .int .i64 i] w fun e w' => e = .returned (.tuple #[.int .i64 c, .int .i64 d, .bool false]) ∧ Pur w w' := by
  by_cases hi : i < l.length
  · refine ⟨(chr l i).1, (chr l i).2, fun w hT => ?_⟩
    have := next_in l i w hT hi
    rw [show decide (0 < (chr l i).2) = false by rw [h]; rfl] at this
    exact this
  · exact ⟨0, 0, fun w _ => next_out l i w (by omega)⟩
set_option maxRecDepth 100000 in
set_option maxHeartbeats 2000000 in
theorem back_law (l m : List UInt8) (w : World) (hT : Lib.Utf8Tabs 0 1 w) (hl : l.length ≤ 140737488351232) (hm : m.length ≤ 140737488351232) :
    Calls Tryd.prog 5 #[.string ⟨l.toArray⟩, .string ⟨m.toArray⟩] w fun e w' => e = .returned (.bool true) ∧ Pur w w' := by
  have HT := Lib.hid hT
  clear hT
  by_cases hg : l.length ≤ 4000 ∧ m.length ≤ 4000
  · obtain ⟨g1, g2⟩ := hg
    have d1 : decide ((4000 : Int) < (l.length : Int)) = false := by simp; omega
    have d2 : decide ((4000 : Int) < (m.length : Int)) = false := by simp; omega
    have sx := wideR_shape l
    have lx := wideR_len l
    have rx := narR_wideR l
    have CX := Lib.hid (fun w hT => wide_any l w hT (by omega))
    generalize wideR l = X at *
    obtain ⟨x, ax, ex⟩ := X
    simp only at sx lx rx
    have lx' : x.length ≤ 16000 := by omega
    have lm := narR_len m
    have CM := Lib.hid (fun w => narrow_any m w (by omega))
    have hM : (narR m = ([], 11) ∧ (((m.length : Int) % 2) == 1) = true) ∨ (m.length % 2 = 0) := by
      by_cases h : m.length % 2 = 1
      · exact .inl ⟨by rw [narR, if_pos h], by simp; omega⟩
      · exact .inr (by omega)
    have CY := Lib.hid (fun w hT => wide_any (narR m).1 w hT (by omega))
    have hY := wideR_narR m
    clear hl hm lx
    rcases sx with ⟨rfl, rfl, hx⟩ | ⟨rfl, rfl, hx⟩
    · have CN := Lib.hid (fun w => narrow_any x w (by omega))
      rw [rx rfl] at CN
      clear rx
      have d3 : (((x.length : Int) % 2) != 0) = false := by simp; omega
      clear hx
      rcases hM with ⟨hM, d4⟩ | hev
      · rw [hM] at CM
        clear hM hY CY lm
        go_enter Tryd.func5, Tryd.ntmps5
        go_wp2_with fail
        refine (awake_any _ HT.out).mono ?_
        rintro e w1 ⟨rfl, hp1⟩
        go_wp2_with fail
        refine (CX.out _ (Utf8Tabs_below HT.out hp1)).mono ?_
        rintro e w2 ⟨rfl, hp2⟩
        go_wp2_with fail
        refine (CN.out _).mono ?_
        rintro e w3 ⟨rfl, hp3⟩
        go_wp2_with fail
        refine (CM.out _).mono ?_
        rintro e w4 ⟨rfl, hp4⟩
        go_wp2
        go_ret
        exact ⟨rfl, ((hp1.trans hp2).trans hp3).trans hp4⟩
      · obtain ⟨Y, hY1, hY2, hY3, hY4⟩ := hY hev
        clear hY
        generalize narR m = R at *
        obtain ⟨N, z⟩ := R
        simp only at hY1 hY2 lm CY CM
        subst hY2
        rw [hY1] at CY
        have H4 := Lib.hid hY4
        have hYl : Y.length ≤ 4000 := by omega
        have d5 : (((Y.length : Int) / 2) != ((m.length : Int) / 2)) = false := by rw [hY3]; simp
        have hYh : Y.length / 2 = m.length / 2 := by rw [hY3]
        have HYh := Lib.hid hYh
        clear hY1 hY4 hev hY3 hYh lm
        go_enter Tryd.func5, Tryd.ntmps5
        go_wp2_with fail
        refine (awake_any _ HT.out).mono ?_
        rintro e w1 ⟨rfl, hp1⟩
        go_wp2_with fail
        refine (CX.out _ (Utf8Tabs_below HT.out hp1)).mono ?_
        rintro e w2 ⟨rfl, hp2⟩
        go_wp2_with fail
        refine (CN.out _).mono ?_
        rintro e w3 ⟨rfl, hp3⟩
        go_wp2_with fail
        refine (CM.out _).mono ?_
        rintro e w4 ⟨rfl, hp4⟩
        have hp : Pur w w4 := ((hp1.trans hp2).trans hp3).trans hp4
        have HP := Lib.hid hp
        clear hp hp1 hp2 hp3 hp4
        go_wp2_with fail
        refine (CY.out _ (Utf8Tabs_below HT.out HP.out)).mono ?_
        rintro e w5 ⟨rfl, hp5⟩
        have hp' : Pur w w5 := HP.out.trans hp5
        go_wp2_with (go_at_call 18; refine (length_any _ _ (by omega)).mono ?_; rintro e w' ⟨rfl, rfl⟩)
        go_loopw [18] (fun k wr => ∃ n : Nat, n ≤ m.length / 2 ∧ k = .int .i64 n ∧ Pur w wr) (fun k _ => m.length / 2 + 1 - (intOf k).toNat)
        case atStart => exact ⟨0, by omega, rfl, hp'⟩
        case round =>
          obtain ⟨n, hn, rfl, hpr⟩ := hrel
          by_cases hlt : n < m.length / 2
          · have b1 := at16_lt m n
            have b2 := at16_lt Y n
            have q1 : n < Y.length / 2 := by rw [HYh.out]; exact hlt
            have d6 : decide ((n : Int) < (m.length : Int) / 2) = true := by simp; omega
            rcases H4.out n hlt with hc | ⟨hc, ha1, ha2⟩
            · have d7 : ((at16 m n : Int) != (at16 Y n : Int)) = false := by rw [hc]; simp
              clear hc
              go_wp2_with (go_at_call 18; refine (length_any _ _ (by omega)).mono ?_; rintro e w' ⟨rfl, rfl⟩)
              refine (at_in m n _ (by omega) hlt).mono ?_
              rintro e w7 ⟨rfl, hp7⟩
              go_wp2_with fail
              refine (at_in Y n _ (by omega) q1).mono ?_
              rintro e w8 ⟨rfl, hp8⟩
              go_wp2
              go_roundw
              case rel => exact ⟨n + 1, by omega, by go_num, (hpr.trans hp7).trans hp8⟩
              case measure => simp [intOf]; omega
            · have d7 : ((at16 m n : Int) != (at16 Y n : Int)) = true := by rw [hc]; simp; omega
              have d8 : ((at16 Y n : Int) != 65533) = false := by rw [hc]; rfl
              have d9 : decide ((at16 m n : Int) < 55296) = false := by simp; omega
              have d10 : decide ((57343 : Int) < (at16 m n : Int)) = false := by simp; omega
              clear hc ha1 ha2
              go_wp2_with (go_at_call 18; refine (length_any _ _ (by omega)).mono ?_; rintro e w' ⟨rfl, rfl⟩)
              refine (at_in m n _ (by omega) hlt).mono ?_
              rintro e w7 ⟨rfl, hp7⟩
              go_wp2_with fail
              refine (at_in Y n _ (by omega) q1).mono ?_
              rintro e w8 ⟨rfl, hp8⟩
              go_wp2
              go_roundw
              case rel => exact ⟨n + 1, by omega, by go_num, (hpr.trans hp7).trans hp8⟩
              case measure => simp [intOf]; omega
          · have d6 : decide ((n : Int) < (m.length : Int) / 2) = false := by simp; omega
            go_wp2_with (go_at_call 18; refine (length_any _ _ (by omega)).mono ?_; rintro e w' ⟨rfl, rfl⟩)
            go_ret
            exact ⟨rfl, hpr⟩
    · obtain ⟨c, d, hn⟩ := next_bad l ax hx
      have CN := Lib.hid hn
      clear hn rx hx
      rcases hM with ⟨hM, d4⟩ | hev
      · rw [hM] at CM
        clear hM hY CY lm
        go_enter Tryd.func5, Tryd.ntmps5
        go_wp2_with fail
        refine (awake_any _ HT.out).mono ?_
        rintro e w1 ⟨rfl, hp1⟩
        go_wp2_with fail
        refine (CX.out _ (Utf8Tabs_below HT.out hp1)).mono ?_
        rintro e w2 ⟨rfl, hp2⟩
        go_wp2_with fail
        refine (CN.out _ (Utf8Tabs_below HT.out (hp1.trans hp2))).mono ?_
        rintro e w3 ⟨rfl, hp3⟩
        go_wp2_with fail
        refine (CM.out _).mono ?_
        rintro e w4 ⟨rfl, hp4⟩
        go_wp2
        go_ret
        exact ⟨rfl, ((hp1.trans hp2).trans hp3).trans hp4⟩
      · obtain ⟨Y, hY1, hY2, hY3, hY4⟩ := hY hev
        clear hY
        generalize narR m = R at *
        obtain ⟨N, z⟩ := R
        simp only at hY1 hY2 lm CY CM
        subst hY2
        rw [hY1] at CY
        have H4 := Lib.hid hY4
        have hYl : Y.length ≤ 4000 := by omega
        have d5 : (((Y.length : Int) / 2) != ((m.length : Int) / 2)) = false := by rw [hY3]; simp
        have hYh : Y.length / 2 = m.length / 2 := by rw [hY3]
        have HYh := Lib.hid hYh
        clear hY1 hY4 hev hY3 hYh lm
        go_enter Tryd.func5, Tryd.ntmps5
        go_wp2_with fail
        refine (awake_any _ HT.out).mono ?_
        rintro e w1 ⟨rfl, hp1⟩
        go_wp2_with fail
        refine (CX.out _ (Utf8Tabs_below HT.out hp1)).mono ?_
        rintro e w2 ⟨rfl, hp2⟩
        go_wp2_with fail
        refine (CN.out _ (Utf8Tabs_below HT.out (hp1.trans hp2))).mono ?_
        rintro e w3 ⟨rfl, hp3⟩
        go_wp2_with fail
        refine (CM.out _).mono ?_
        rintro e w4 ⟨rfl, hp4⟩
        have hp : Pur w w4 := ((hp1.trans hp2).trans hp3).trans hp4
        have HP := Lib.hid hp
        clear hp hp1 hp2 hp3 hp4
        go_wp2_with fail
        refine (CY.out _ (Utf8Tabs_below HT.out HP.out)).mono ?_
        rintro e w5 ⟨rfl, hp5⟩
        have hp' : Pur w w5 := HP.out.trans hp5
        go_wp2_with (go_at_call 18; refine (length_any _ _ (by omega)).mono ?_; rintro e w' ⟨rfl, rfl⟩)
        go_loopw [18] (fun k wr => ∃ n : Nat, n ≤ m.length / 2 ∧ k = .int .i64 n ∧ Pur w wr) (fun k _ => m.length / 2 + 1 - (intOf k).toNat)
        case atStart => exact ⟨0, by omega, rfl, hp'⟩
        case round =>
          obtain ⟨n, hn, rfl, hpr⟩ := hrel
          by_cases hlt : n < m.length / 2
          · have b1 := at16_lt m n
            have b2 := at16_lt Y n
            have q1 : n < Y.length / 2 := by rw [HYh.out]; exact hlt
            have d6 : decide ((n : Int) < (m.length : Int) / 2) = true := by simp; omega
            rcases H4.out n hlt with hc | ⟨hc, ha1, ha2⟩
            · have d7 : ((at16 m n : Int) != (at16 Y n : Int)) = false := by rw [hc]; simp
              clear hc
              go_wp2_with (go_at_call 18; refine (length_any _ _ (by omega)).mono ?_; rintro e w' ⟨rfl, rfl⟩)
              refine (at_in m n _ (by omega) hlt).mono ?_
              rintro e w7 ⟨rfl, hp7⟩
              go_wp2_with fail
              refine (at_in Y n _ (by omega) q1).mono ?_
              rintro e w8 ⟨rfl, hp8⟩
              go_wp2
              go_roundw
              case rel => exact ⟨n + 1, by omega, by go_num, (hpr.trans hp7).trans hp8⟩
              case measure => simp [intOf]; omega
            · have d7 : ((at16 m n : Int) != (at16 Y n : Int)) = true := by rw [hc]; simp; omega
              have d8 : ((at16 Y n : Int) != 65533) = false := by rw [hc]; rfl
              have d9 : decide ((at16 m n : Int) < 55296) = false := by simp; omega
              have d10 : decide ((57343 : Int) < (at16 m n : Int)) = false := by simp; omega
              clear hc ha1 ha2
              go_wp2_with (go_at_call 18; refine (length_any _ _ (by omega)).mono ?_; rintro e w' ⟨rfl, rfl⟩)
              refine (at_in m n _ (by omega) hlt).mono ?_
              rintro e w7 ⟨rfl, hp7⟩
              go_wp2_with fail
              refine (at_in Y n _ (by omega) q1).mono ?_
              rintro e w8 ⟨rfl, hp8⟩
              go_wp2
              go_roundw
              case rel => exact ⟨n + 1, by omega, by go_num, (hpr.trans hp7).trans hp8⟩
              case measure => simp [intOf]; omega
          · have d6 : decide ((n : Int) < (m.length : Int) / 2) = false := by simp; omega
            go_wp2_with (go_at_call 18; refine (length_any _ _ (by omega)).mono ?_; rintro e w' ⟨rfl, rfl⟩)
            go_ret
            exact ⟨rfl, hpr⟩
  · have hx : 4000 < (l.length : Int) ∨ ((l.length : Int) ≤ 4000 ∧ 4000 < (m.length : Int)) := by omega
    clear hg hl hm
    rcases hx with q1 | ⟨q1, q2⟩
    all_goals
      go_enter Tryd.func5, Tryd.ntmps5
      go_wp2_with fail
      refine (awake_any _ HT.out).mono ?_
      rintro e w1 ⟨rfl, hp1⟩
      go_wp2
      go_ret
      exact ⟨rfl, hp1⟩
end Go.Proofs.YtipnlgcicdnhdaaDoor
