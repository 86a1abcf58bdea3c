/- The laws UtfCases, UtfJoins and UtfFinds: each call returns true, and turns nothing that was there. -/
import Derived.Test.YtipnlgcicdnhdaaDoorUtf9
import Derived.Test.YtipnlgcicdnhdaaDoorUtfPure3
namespace Go.Proofs.YtipnlgcicdnhdaaDoor
open Go Go.RowKit
theorem cases_law (l : List UInt8) (w : World) (hT : Lib.Utf8Tabs 0 1 w) (hl : l.length ≤ 140737488351232) :
    Calls Tryd.prog 8 #[.string ⟨l.toArray⟩] w fun e w' => e = .returned (.bool true) ∧ Pur w w' := by
  have HT := Lib.hid hT
  clear hT
  by_cases hev : l.length % 2 = 0
  · have hd : (((l.length : Int) % 2) != 0) = false := by simp; omega
    have hA := caseL_length true l (l.length / 2)
    have hB := caseL_length false l (l.length / 2)
    have e1 := caseL_caseL true true l (l.length / 2)
    have e2 := caseL_caseL false false l (l.length / 2)
    have e3 := caseL_caseL true false l (l.length / 2)
    have e4 := caseL_caseL false true l (l.length / 2)
    have HU := Lib.hid (upper_any l w hl)
    have CU := Lib.hid (fun w => upper_any l w hl)
    have CL := Lib.hid (fun w => lower_any l w hl)
    generalize caseL true l (l.length / 2) = A at *
    generalize caseL false l (l.length / 2) = B at *
    have nA : A.length / 2 = l.length / 2 := by omega
    have nB : B.length / 2 = l.length / 2 := by omega
    have KA := Lib.hid (fun w => upper_any A w (by omega))
    have KB := Lib.hid (fun w => lower_any B w (by omega))
    have KC := Lib.hid (fun w => lower_any A w (by omega))
    have KD := Lib.hid (fun w => upper_any B w (by omega))
    rw [nA, e1] at KA
    rw [nB, e2] at KB
    rw [nA, e3] at KC
    rw [nB, e4] at KD
    have d1 : ((A.length : Int) == (l.length : Int)) = true := by simp; omega
    have d2 : ((B.length : Int) == (l.length : Int)) = true := by simp; omega
    clear e1 e2 e3 e4 nA nB hA hB hev HU
    go_enter Tryd.func8, Tryd.ntmps8
    go_wp2_with fail
    refine (awake_any _ HT.out).mono ?_
    rintro e w1 ⟨rfl, hp1⟩
    go_wp2_with fail
    refine (CU.out _).mono ?_
    rintro e w2 ⟨rfl, hp2⟩
    go_wp2_with fail
    refine (CL.out _).mono ?_
    rintro e w3 ⟨rfl, hp3⟩
    go_wp2_with fail
    refine (KA.out _).mono ?_
    rintro e w4 ⟨rfl, hp4⟩
    go_wp2_with fail
    refine (KB.out _).mono ?_
    rintro e w5 ⟨rfl, hp5⟩
    go_wp2_with fail
    refine (KC.out _).mono ?_
    rintro e w6 ⟨rfl, hp6⟩
    go_wp2_with fail
    refine (KD.out _).mono ?_
    rintro e w7 ⟨rfl, hp7⟩
    go_wp2
    go_ret
    exact ⟨rfl, (((((hp1.trans hp2).trans hp3).trans hp4).trans hp5).trans hp6).trans hp7⟩
  · have hd : (((l.length : Int) % 2) != 0) = true := by simp; omega
    clear hev
    go_enter Tryd.func8, Tryd.ntmps8
    go_wp2_with fail
    refine (awake_any _ HT.out).mono ?_
    rintro e w1 ⟨rfl, hp1⟩
    go_wp2
    go_ret
    exact ⟨rfl, hp1⟩
theorem joins_law (l m : List UInt8) (w : World) (hT : Lib.Utf8Tabs 0 1 w) (hl : l.length ≤ 140737488351232) (hm : m.length ≤ 140737488351232) :
    Calls Tryd.prog 6 #[.string ⟨l.toArray⟩, .string ⟨m.toArray⟩] w fun e w' => e = .returned (.bool true) ∧ Pur w w' := by
  have HT := Lib.hid hT
  clear hT
  by_cases h1 : l.length ≤ 4000
  · by_cases h2 : m.length ≤ 4000
    · have sx := wideR_shape l
      have sy := wideR_shape m
      have lx := wideR_len l
      have ly := wideR_len m
      have CX := Lib.hid (fun w hT => wide_any l w hT (by omega))
      have CY := Lib.hid (fun w hT => wide_any m w hT (by omega))
      have CZ := Lib.hid (fun w hT => wide_any (l ++ m) w hT (by rw [List.length_append]; omega))
      have app := wideR_append l m
      generalize wideR l = X at *
      generalize wideR m = Y at *
      obtain ⟨x, ax, ex⟩ := X
      obtain ⟨y, ay, ey⟩ := Y
      simp only at sx sy lx ly app
      have hlm : l.length + m.length ≤ 8000 := by omega
      rcases sx with ⟨rfl, rfl, hx⟩ | ⟨rfl, rfl, _⟩
      · rcases sy with ⟨rfl, rfl, hy⟩ | ⟨rfl, rfl, _⟩
        · have app' := app rfl rfl
          rw [app'] at CZ
          clear app app'
          have n1 : x.length / 2 ≤ (x ++ y).length / 2 := by rw [List.length_append]; omega
          have c1 : cutU (x ++ y) 0 ((x.length : Int) / 2) = x := by
            have : cutU (x ++ y) ((0 : Nat) : Int) ((x.length / 2 : Nat) : Int) = x := by
              rw [cutU_nat _ _ _ (by omega) n1]
              unfold sub
              rw [show 2 * (x.length / 2) - 2 * 0 = x.length by omega]
              simp
            exact this
          have c2 : cutU (x ++ y) ((x.length : Int) / 2) ((x.length : Int) + (y.length : Int)) = y := by
            rw [cutU, show clamp ((x.length : Int) / 2) ((x ++ y).length / 2) = x.length / 2 by unfold clamp; omega, show clamp ((x.length : Int) + (y.length : Int)) ((x ++ y).length / 2) = (x ++ y).length / 2 by rw [List.length_append]; unfold clamp; omega]
            unfold sub
            rw [show 2 * (x.length / 2) = x.length by omega, List.drop_left, List.take_of_length_le (by rw [List.length_append]; omega)]
          have d1 : (cutU (x ++ y) 0 ((x.length : Int) / 2) == x) = true := by rw [c1]; simp
          have d2 : (cutU (x ++ y) ((x.length : Int) / 2) ((x.length : Int) + (y.length : Int)) == y) = true := by rw [c2]; simp
          have d3 : (((x.length : Int) + (y.length : Int)) / 2 == (x.length : Int) / 2 + (y.length : Int) / 2) = true := by simp; omega
          have bx : x.length ≤ 16000 := by omega
          have hzb : (x ++ y).length ≤ 32000 := by rw [List.length_append]; omega
          have CC := Lib.hid (fun i j w => cut_any (x ++ y) i j w (by omega))
          have CL := Lib.hid (fun w => length_any (x ++ y) w (by omega))
          rw [List.length_append] at CL
          clear c1 c2 n1 hx hy
          go_enter Tryd.func6, Tryd.ntmps6
          go_wp2_with fail
          refine (awake_any _ HT.out).mono ?_
          rintro e w1 ⟨rfl, hp1⟩
          go_wp2_with fail
          refine (CX.out _ (Utf8Tabs_below HT.out hp1)).mono ?_
          rintro e w2 ⟨rfl, hp2⟩
          go_wp2_with fail
          refine (CY.out _ (Utf8Tabs_below HT.out (hp1.trans hp2))).mono ?_
          rintro e w3 ⟨rfl, hp3⟩
          go_wp2_with fail
          refine (CZ.out _ (Utf8Tabs_below HT.out ((hp1.trans hp2).trans hp3))).mono ?_
          rintro e w4 ⟨rfl, hp4⟩
          go_wp2_with fail
          refine (length_any x _ (by omega)).mono ?_
          rintro e w' ⟨rfl, rfl⟩
          go_wp2_with fail
          refine (CL.out _).mono ?_
          rintro e w' ⟨rfl, rfl⟩
          go_wp2_with fail
          refine (length_any y _ (by omega)).mono ?_
          rintro e w' ⟨rfl, rfl⟩
          go_wp2_with fail
          refine (CC.out _ _ _).mono ?_
          rintro e w5 ⟨rfl, hp5⟩
          go_wp2_with fail
          refine (CC.out _ _ _).mono ?_
          rintro e w6 ⟨rfl, hp6⟩
          go_wp2
          go_ret
          exact ⟨rfl, ((((hp1.trans hp2).trans hp3).trans hp4).trans hp5).trans hp6⟩
        · clear app CZ
          go_enter Tryd.func6, Tryd.ntmps6
          go_wp2_with fail
          refine (awake_any _ HT.out).mono ?_
          rintro e w1 ⟨rfl, hp1⟩
          go_wp2_with fail
          refine (CX.out _ (Utf8Tabs_below HT.out hp1)).mono ?_
          rintro e w2 ⟨rfl, hp2⟩
          go_wp2_with fail
          refine (CY.out _ (Utf8Tabs_below HT.out (hp1.trans hp2))).mono ?_
          rintro e w3 ⟨rfl, hp3⟩
          go_wp2
          all_goals go_ret
          all_goals exact ⟨rfl, (hp1.trans hp2).trans hp3⟩
      · clear app CZ
        rcases sy with ⟨rfl, rfl, hy⟩ | ⟨rfl, rfl, _⟩
        all_goals
          go_enter Tryd.func6, Tryd.ntmps6
          go_wp2_with fail
          refine (awake_any _ HT.out).mono ?_
          rintro e w1 ⟨rfl, hp1⟩
          go_wp2_with fail
          refine (CX.out _ (Utf8Tabs_below HT.out hp1)).mono ?_
          rintro e w2 ⟨rfl, hp2⟩
          go_wp2_with fail
          refine (CY.out _ (Utf8Tabs_below HT.out (hp1.trans hp2))).mono ?_
          rintro e w3 ⟨rfl, hp3⟩
          go_wp2
          all_goals go_ret
          all_goals exact ⟨rfl, (hp1.trans hp2).trans hp3⟩
    · have h3 : 4000 < (m.length : Int) := by omega
      clear h2
      go_enter Tryd.func6, Tryd.ntmps6
      go_wp2_with fail
      refine (awake_any _ HT.out).mono ?_
      rintro e w1 ⟨rfl, hp1⟩
      go_wp2
      go_ret
      exact ⟨rfl, hp1⟩
  · have h3 : 4000 < (l.length : Int) := by omega
    clear h1
    go_enter Tryd.func6, Tryd.ntmps6
    go_wp2_with fail
    refine (awake_any _ HT.out).mono ?_
    rintro e w1 ⟨rfl, hp1⟩
    go_wp2
    go_ret
    exact ⟨rfl, hp1⟩
theorem finds_law (l p : List UInt8) (i : Int) (w : World) (hT : Lib.Utf8Tabs 0 1 w) (hl : l.length ≤ 140737488351232) (hm : p.length ≤ 140737488351232) (h0 : 0 ≤ i) (h1 : i < 256) :
    Calls Tryd.prog 9 #[.string ⟨l.toArray⟩, .string ⟨p.toArray⟩, .int .u8 i] w fun e w' => e = .returned (.bool true) ∧ Pur w w' := by
  have HT := Lib.hid hT
  clear hT
  obtain ⟨i, rfl⟩ := Int.eq_ofNat_of_zero_le h0
  by_cases hg : l.length ≤ 2000 ∧ p.length ≤ 2000 ∧ l.length % 2 = 0 ∧ p.length % 2 = 0
  · obtain ⟨g1, g2, g3, g4⟩ := hg
    have d3 : (((l.length : Int) % 2) != 0) = false := by simp; omega
    have d4 : (((p.length : Int) % 2) != 0) = false := by simp; omega
    have F := Lib.hid (fun w => find_any l p i w (by omega) (by omega))
    rw [show (max (i : Int) 0).toNat = i by omega, sub_all p (show p.length ≤ 2 * (p.length / 2) by omega)] at F
    have hs := findU_spec l p (p.length / 2) (l.length / 2 + 1) i (by omega)
    have hcn : ∀ j : Nat, j + p.length / 2 ≤ l.length / 2 → cutU l j ((j : Int) + (p.length : Int) / 2) = sub l (2 * j) (2 * (j + p.length / 2)) := fun j hj => by
      have := cutU_nat l j (j + p.length / 2) (by omega) hj
      rw [← this]
      congr 1
    have HC := Lib.hid hcn
    have d1 : decide ((2000 : Int) < (l.length : Int)) = false := by simp; omega
    have d2 : decide ((2000 : Int) < (p.length : Int)) = false := by simp; omega
    clear hcn g3 g4 hl hm
    rcases hs with ⟨hf, hno⟩ | ⟨m, hf, hm1, hm2, hm3, hno⟩
    · rw [hf] at F
      have HN := Lib.hid hno
      clear hf hno
      go_enter Tryd.func9, Tryd.ntmps9
      go_wp2_with fail
      refine (awake_any _ HT.out).mono ?_
      rintro e w1 ⟨rfl, hp1⟩
      go_wp2_with (go_at_call 18; refine (length_any _ _ (by omega)).mono ?_; rintro e w' ⟨rfl, rfl⟩)
      refine (F.out _).mono ?_
      rintro e w2 ⟨rfl, hp2⟩
      go_wp2
      clear d1 d2 d3 d4
      go_loopw [9] (fun k wr => ∃ n : Nat, i ≤ n ∧ n ≤ 2000 ∧ k = .int .i64 n ∧ Pur w wr) (fun k _ => 2001 - (intOf k).toNat)
      case atStart => exact ⟨i, Nat.le_refl _, by omega, rfl, hp1.trans hp2⟩
      case round =>
        obtain ⟨n, hn, hn2, rfl, hpr⟩ := hrel
        by_cases hlt : (n : Int) ≤ (l.length : Int) / 2 - (p.length : Int) / 2
        · have hb : (cutU l n ((n : Int) + (p.length : Int) / 2) == p) = false := by
            rw [HC.out n (by omega)]
            simpa using HN.out n hn (by omega)
          have d5 : decide ((n : Int) ≤ (l.length : Int) / 2 - (p.length : Int) / 2) = true := by simp; omega
          go_wp2_with (first | (go_at_call 18; refine (length_any _ _ (by omega)).mono ?_; rintro e w' ⟨rfl, rfl⟩) | (go_at_call 20; refine (cut_any _ _ _ _ (by omega)).mono ?_; rintro e w3 ⟨rfl, hp3⟩))
          go_roundw
          case rel => exact ⟨n + 1, by omega, by omega, by go_num, hpr.trans hp3⟩
          case measure => simp [intOf]; omega
        · have d5 : decide ((n : Int) ≤ (l.length : Int) / 2 - (p.length : Int) / 2) = false := by simp; omega
          clear hlt
          go_wp2_with (first | (go_at_call 18; refine (length_any _ _ (by omega)).mono ?_; rintro e w' ⟨rfl, rfl⟩))
          go_ret
          exact ⟨rfl, hpr⟩
    · rw [hf] at F
      have HN := Lib.hid hno
      have hb1 : (cutU l m ((m : Int) + (p.length : Int) / 2) == p) = true := by rw [HC.out m hm2, hm3]; simp
      clear hf hno hm3
      go_enter Tryd.func9, Tryd.ntmps9
      go_wp2_with fail
      refine (awake_any _ HT.out).mono ?_
      rintro e w1 ⟨rfl, hp1⟩
      go_wp2_with (go_at_call 18; refine (length_any _ _ (by omega)).mono ?_; rintro e w' ⟨rfl, rfl⟩)
      refine (F.out _).mono ?_
      rintro e w2 ⟨rfl, hp2⟩
      go_wp2
      clear d1 d2 d3 d4
      go_loopw [9] (fun k wr => ∃ n : Nat, i ≤ n ∧ n ≤ m ∧ k = .int .i64 n ∧ Pur w wr) (fun k _ => m + 1 - (intOf k).toNat)
      case atStart => exact ⟨i, Nat.le_refl _, hm1, rfl, hp1.trans hp2⟩
      case round =>
        obtain ⟨n, hn, hn2, rfl, hpr⟩ := hrel
        have d0 : ((m : Int) == -1) = false := by simp <;> omega
        have d5 : decide ((n : Int) ≤ (l.length : Int) / 2 - (p.length : Int) / 2) = true := by simp; omega
        have d6 : decide ((m : Int) < 0) = false := by simp <;> omega
        have d7 : decide ((i : Int) ≤ (m : Int)) = true := by simp; omega
        have d8 : decide ((m : Int) + (p.length : Int) / 2 ≤ (l.length : Int) / 2) = true := by simp; omega
        have hle : (n : Int) ≤ (l.length : Int) / 2 - (p.length : Int) / 2 := by omega
        by_cases hlt : (n : Int) < m
        · have hb : (cutU l n ((n : Int) + (p.length : Int) / 2) == p) = false := by
            rw [HC.out n (by omega)]
            simpa using HN.out n hn (by omega)
          have d9 : decide ((n : Int) < (m : Int)) = true := by simp; omega
          clear hb1 d8 d7
          go_wp2_with (first | (go_at_call 18; refine (length_any _ _ (by omega)).mono ?_; rintro e w' ⟨rfl, rfl⟩) | (go_at_call 20; refine (cut_any _ _ _ _ (by omega)).mono ?_; rintro e w3 ⟨rfl, hp3⟩))
          go_roundw
          case rel => exact ⟨n + 1, by omega, by omega, by go_num, hpr.trans hp3⟩
          case measure => simp [intOf]; omega
        · obtain rfl : n = m := by omega
          have d9 : decide ((n : Int) < (n : Int)) = false := by simp
          clear hlt
          have hle2 : (n : Int) + (p.length : Int) / 2 ≤ (l.length : Int) / 2 := by omega
          go_wp2_with (first | (go_at_call 18; refine (length_any _ _ (by omega)).mono ?_; rintro e w' ⟨rfl, rfl⟩) | (go_at_call 20; refine (cut_any _ _ _ _ (by omega)).mono ?_; rintro e w3 ⟨rfl, hp3⟩))
          go_ret
          exact ⟨rfl, hpr.trans hp3⟩
  · have hx : 2000 < (l.length : Int) ∨ ((l.length : Int) ≤ 2000 ∧ 2000 < (p.length : Int)) ∨ ((l.length : Int) ≤ 2000 ∧ (p.length : Int) ≤ 2000 ∧ (((l.length : Int) % 2) != 0) = true) ∨ ((l.length : Int) ≤ 2000 ∧ (p.length : Int) ≤ 2000 ∧ (((l.length : Int) % 2) != 0) = false ∧ (((p.length : Int) % 2) != 0) = true) := by
      simp only [bne_iff_ne, bne_eq_false_iff_eq, ne_eq]
      omega
    clear hg
    rcases hx with q1 | ⟨q1, q2⟩ | ⟨q1, q2, q3⟩ | ⟨q1, q2, q3, q4⟩
    all_goals
      go_enter Tryd.func9, Tryd.ntmps9
      go_wp2_with fail
      refine (awake_any _ HT.out).mono ?_
      rintro e w1 ⟨rfl, hp1⟩
      go_wp2
      go_ret
      exact ⟨rfl, hp1⟩
end Go.Proofs.YtipnlgcicdnhdaaDoor
