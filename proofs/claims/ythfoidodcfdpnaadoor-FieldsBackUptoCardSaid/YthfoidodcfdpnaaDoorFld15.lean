/- The laws FieldsBack, FieldsAgain, FieldsJoins. -/
import Derived.Test.YthfoidodcfdpnaaDoorFld14
namespace Go.Proofs.YthfoidodcfdpnaaDoor
open Go Go.RowKit
set_option maxRecDepth 100000 in
set_option maxHeartbeats 4000000 in
theorem back_law (v : Value) (fs : List Fld) (w : World) (hM : MX w) (hR : FRead w v fs) (hs : fs.length ≤ 1048576) (hF : FSmall fs) :
    Calls Tryd.prog 5 #[v] w fun e w' => e = .returned (.bool true) ∧ Pur w w' := by
  obtain ⟨a, c, rfl, _⟩ := id hR
  have HR := Lib.hid hR
  clear hR
  have P1 := fun v w hR => write_any v fs w hR (by omega) hF
  have P3 := fun v u w hR hQ => same_any v u fs fs w hR hQ (by omega) (by omega)
  rw [decide_eq_true (rfl : fs = fs)] at P3
  by_cases h32 : 32 < fs.length
  · have d1 : decide ((32 : Int) < fs.length) = true := decide_eq_true (by omega)
    rw [write_long h32] at P1
    simp only at P1
    clear h32
    go_enter Tryd.func5, Tryd.ntmps5
    go_wp2_with fail
    refine (awake_any _ hM).mono ?_
    rintro e w1 ⟨rfl, hp1⟩
    go_wp2_with fail
    refine (P1 _ _ (HR.out.pur hp1)).mono ?_
    rintro e w2 ⟨rfl, hp2⟩
    go_wp2
    go_ret
    exact ⟨rfl, hp1.trans hp2⟩
  · have d1 : decide ((32 : Int) < fs.length) = false := decide_eq_false (by omega)
    by_cases hbig : 4096 < (joined fs).length
    · rw [write_big (by omega) hbig] at P1
      simp only at P1
      clear h32 hbig
      go_enter Tryd.func5, Tryd.ntmps5
      go_wp2_with fail
      refine (awake_any _ hM).mono ?_
      rintro e w1 ⟨rfl, hp1⟩
      go_wp2_with fail
      refine (P1 _ _ (HR.out.pur hp1)).mono ?_
      rintro e w2 ⟨rfl, hp2⟩
      go_wp2
      go_ret
      exact ⟨rfl, hp1.trans hp2⟩
    · rw [write_ok (by omega) (by omega)] at P1
      have P2 := fun w hM => parse_any' (joined fs) w hM
      rw [parse_joined (by omega) (by omega)] at P2
      simp only at P1 P2
      generalize joined fs = J at *
      clear h32 hbig
      go_enter Tryd.func5, Tryd.ntmps5
      go_wp2_with fail
      refine (awake_any _ hM).mono ?_
      rintro e w1 ⟨rfl, hp1⟩
      go_wp2_with fail
      refine (P1 _ _ (HR.out.pur hp1)).mono ?_
      rintro e w2 ⟨rfl, hp2⟩
      go_wp2_with fail
      refine (P2 _ (hM.pur (hp1.trans hp2))).mono ?_
      rintro e w3 ⟨a3, c3, rfl, hr3, hp3⟩
      go_wp2_with fail
      refine (P3 _ _ _ (HR.out.pur ((hp1.trans hp2).trans hp3)) hr3).mono ?_
      rintro e w4 ⟨rfl, hp4⟩
      go_wp2
      go_ret
      exact ⟨rfl, ((hp1.trans hp2).trans hp3).trans hp4⟩
set_option maxRecDepth 100000 in
set_option maxHeartbeats 4000000 in
theorem again_law (s : Bytes) (w : World) (hM : MX w) :
    Calls Tryd.prog 7 #[.string ⟨s.toArray⟩] w fun e w' => e = .returned (.bool true) ∧ Pur w w' := by
  have P1 := fun w hM => parse_any' s w hM
  obtain ⟨hF, hl⟩ := parse_small s
  by_cases h0 : (parse s).2 = 0
  · obtain ⟨fs, h1, h2, h3, h4⟩ : ∃ fs, s.length ≤ 4096 ∧ fieldsOf (pieces s) = some fs ∧ fs.length ≤ 32 ∧ parse s = (fs, 0) := by
      rcases parse_cases s with ⟨_, e⟩ | ⟨_, _, e⟩ | ⟨fs, _, _, _, e⟩ | h
      · rw [e] at h0; simp at h0
      · rw [e] at h0; simp at h0
      · rw [e] at h0; simp at h0
      · exact h
    rw [h4] at P1 hF
    simp only at P1 hF
    have P2 := fun v w hR => write_any v fs w hR (by omega) hF
    have P3 := fun v u w hR hQ => same_any v u fs fs w hR hQ (by omega) (by omega)
    rw [decide_eq_true (rfl : fs = fs)] at P3
    by_cases hbig : 4096 < (joined fs).length
    · have d1 : decide ((1000 : Int) < s.length) = true := by
        have g1 := joined_len fs
        have g2 := (fields_bulk _ _ h2).1
        have g3 := pieces_bulk s
        exact decide_eq_true (by omega)
      rw [write_big (by omega) hbig] at P2
      simp only at P2
      clear hbig h1 h2 h3 h4 hl h0 P3 hF
      go_enter Tryd.func7, Tryd.ntmps7
      go_wp2_with fail
      refine (awake_any _ hM).mono ?_
      rintro e w1 ⟨rfl, hp1⟩
      go_wp2_with fail
      refine (P1 _ (hM.pur hp1)).mono ?_
      rintro e w2 ⟨a2, c2, rfl, hr2, hp2⟩
      go_wp2_with fail
      refine (P2 _ _ hr2).mono ?_
      rintro e w3 ⟨rfl, hp3⟩
      go_wp2
      go_ret
      exact ⟨rfl, (hp1.trans hp2).trans hp3⟩
    · rw [write_ok (by omega) (by omega)] at P2
      have P4 := fun w hM => parse_any' (joined fs) w hM
      rw [parse_joined (by omega) (by omega)] at P4
      simp only at P2 P4
      generalize joined fs = J at *
      clear hbig h1 h2 h3 h4 hl h0 hF
      go_enter Tryd.func7, Tryd.ntmps7
      go_wp2_with fail
      refine (awake_any _ hM).mono ?_
      rintro e w1 ⟨rfl, hp1⟩
      go_wp2_with fail
      refine (P1 _ (hM.pur hp1)).mono ?_
      rintro e w2 ⟨a2, c2, rfl, hr2, hp2⟩
      go_wp2_with fail
      refine (P2 _ _ hr2).mono ?_
      rintro e w3 ⟨rfl, hp3⟩
      go_wp2_with fail
      refine (P4 _ (hM.pur ((hp1.trans hp2).trans hp3))).mono ?_
      rintro e w4 ⟨a4, c4, rfl, hr4, hp4⟩
      go_wp2_with fail
      refine (P3 _ _ _ (hr2.pur (hp3.trans hp4)) hr4).mono ?_
      rintro e w5 ⟨rfl, hp5⟩
      go_wp2
      go_ret
      exact ⟨rfl, (((hp1.trans hp2).trans hp3).trans hp4).trans hp5⟩
  · have hz : (parse s).1 = [] ∧ 0 < (parse s).2 ∧ (parse s).2 < 1000 := by
      rcases parse_cases s with ⟨_, e⟩ | ⟨_, _, e⟩ | ⟨fs, _, _, _, e⟩ | ⟨fs, _, _, _, e⟩
      · rw [e]; simp
      · rw [e]; simp
      · rw [e]; simp
      · rw [e] at h0; simp at h0
    generalize parse s = r at *
    obtain ⟨fs, n⟩ := r
    simp only at *
    obtain ⟨rfl, b1, b2⟩ := hz
    have d1 : (n != 0) = true := by simp; omega
    clear hF hl h0
    go_enter Tryd.func7, Tryd.ntmps7
    go_wp2_with fail
    refine (awake_any _ hM).mono ?_
    rintro e w1 ⟨rfl, hp1⟩
    go_wp2_with fail
    refine (P1 _ (hM.pur hp1)).mono ?_
    rintro e w2 ⟨a2, c2, rfl, hr2, hp2⟩
    go_wp2
    go_ret
    exact ⟨rfl, hp1.trans hp2⟩
end Go.Proofs.YthfoidodcfdpnaaDoor
