/- Layer 5: what stands behind a backslash. -/
import Derived.Test.YtepmneongpbglaaGreatDoorLk6
namespace Go.Proofs.YtepmneongpbglaaGreatDoor
open Go Go.RowKit
set_option linter.all false
namespace Lx
/-- how an escape ends -/
def EscPost (w : World) (p : Nat) (l : List UInt8) (ln : Bool) (v : Value) (r : Option (List UInt8 × Nat)) (e : Ending) (w' : World) : Prop := match r with
  | some (t, j) => e = .returned (.tuple #[.string ⟨t.toArray⟩, .bool true]) ∧ Lb w' p l j ln v ∧ Chg [p] w w'
  | none => (∃ t : List UInt8, e = .returned (.tuple #[.string ⟨t.toArray⟩, .bool false])) ∧ (∃ j, Lb w' p l j ln v) ∧ Chg [p] w w'
theorem escI_no {c : Nat} (h : plainEsc c = none) : escI c = -1 := by
  unfold plainEsc at h
  unfold escI
  repeat (split at h; · cases h)
  rename_i h1 h2 h3 h4 h5 h6
  rw [if_neg h1, if_neg h2, if_neg h3, if_neg h4, if_neg h5, if_neg h6]
theorem plain_way {c v : Nat} (h : plainEsc c = some v) : (c = 98 ∧ v = 8) ∨ (c = 116 ∧ v = 9) ∨ (c = 110 ∧ v = 10) ∨ (c = 118 ∧ v = 11) ∨ (c = 102 ∧ v = 12) ∨ (c = 114 ∧ v = 13) := by
  unfold plainEsc at h
  repeat (split at h; · (cases h; omega))
  cases h
set_option maxRecDepth 100000 in
set_option maxHeartbeats 32000000 in
theorem escape_any {w0 w : World} {p i : Nat} {l : List UInt8} {ln : Bool} {v : Value} (h : Lb w p l i ln v) (B : LB w0 p w) (hi : i ≤ l.length) (hl : l.length ≤ 1000000) :
    Calls Tryz.prog 48 #[.pointer (some ⟨p, 0, none⟩)] w fun e w' => EscPost w p l ln v (escape l i) e w' := by
  have q0 := h.q0
  have q1 := h.q1
  have NX := fun x : PW w => next_any l i x.to (B.purd x.pur).w
  by_cases hn : (chr l i).2 = 0
  · have HS := Lib.hid (show escape l i = none by unfold escape; simp only; rw [if_pos hn])
    rw [hn] at NX
    clear hn
    go_enter Tryz.func48, Tryz.ntmps48
    go_wp2
    refine wp_region_pur (by kernel_rfl) (by kernel_rfl) ?_
    repeat (go_big_quiet_step (((go_at_call 29; with_reducible exact quiet_pur (NX _)))))
    refine wpQuiet_nil ?_
    intro wq hq
    clear q0 q1 NX
    go_wp2
    go_ret2
    rw [HS.out]
    exact ⟨⟨[], rfl⟩, ⟨_, h.pur hq⟩, Chg.of_pur hq⟩
  · have hn0 : 0 < (chr l i).2 := by omega
    have hce := chr_end hn
    have hok := chr_okc hn
    have hE : escape l i = (match plainEsc (chr l i).1 with
      | some v => some ([0, UInt8.ofNat v], i + (chr l i).2)
      | none =>
        if (chr l i).1 = 120 then (hexGo l 2 (i + (chr l i).2) 0).map fun x => (unit8 x.1, x.2)
        else if (chr l i).1 = 117 then (hexGo l 4 (i + (chr l i).2) 0).map fun x => (unit8 x.1, x.2)
        else if (chr l i).1 = 48 then (if digit (by8 l (i + (chr l i).2)) then none else some ([0, 0], i + (chr l i).2))
        else if 49 ≤ (chr l i).1 ∧ (chr l i).1 ≤ 57 then none
        else if (chr l i).1 = 13 ∧ by8 l (i + (chr l i).2) = 10 then some ([], i + (chr l i).2 + 1)
        else if endsC (chr l i).1 then some ([], i + (chr l i).2)
        else some (units (chr l i).1, i + (chr l i).2)) := by unfold escape; simp only; rw [if_neg hn]; rfl
    have w1' : IntKind.i64.wrap ((i : Int) + ((chr l i).2 : Int)) = (i : Int) + ((chr l i).2 : Int) := IntWalk.i64_in _ (by omega)
    have hcb : (chr l i).1 ≤ 1114111 := by unfold okc at hok; omega
    generalize (chr l i).1 = c at *
    generalize (chr l i).2 = n at *
    have w2' : IntKind.i32.wrap (c : Int) = (c : Int) := IntWalk.i32_in _ (by omega)
    have IR := fun w => irune_any c hok w
    clear hn
    go_enter Tryz.func48, Tryz.ntmps48
    go_wp2
    refine wp_region_pur (by kernel_rfl) (by kernel_rfl) ?_
    repeat (go_big_quiet_step (((go_at_call 29; with_reducible exact quiet_pur (NX _)))))
    refine wpQuiet_nil ?_
    intro wq hq
    have k0 := h.pur hq
    have c1 := k0.c1
    have f1 := k0.f 1
    have k1 := k0.seti (i + n) ((i : Int) + (n : Int)) (by omega)
    have G1 := (Chg.of_pur (S := [p]) hq).trans (chg1 p wq 1 (.int .i64 ((i : Int) + (n : Int))))
    generalize i + n = j at *
    clear q0 q1 NX
    go_wp2_with fail
    refine (IR _).mono ?_
    rintro e w2 ⟨rfl, p2⟩
    have k2 := k1.pur p2
    have G2 := G1.pur p2
    have B2 := B.chg G2
    clear IR k0 k1 G1
    rcases hp : plainEsc c with _ | pv
    · rw [hp] at hE
      simp only at hE
      have e1 := escI_no hp
      have e1i := Lib.hid e1
      by_cases h120 : c = 120
      · subst h120
        have hE2 := hE.trans (if_pos rfl)
        have DG := digits_any 2 (by decide) k2 hce hl
        rcases hx : hexGo l 2 j 0 with _ | ⟨u, j2⟩
        · rw [hx] at DG hE2
          have HS := Lib.hid hE2
          clear hE hE2 hp hx
          rw [e1]
          clear e1
          go_wp2_with fail
          refine DG.mono ?_
          rintro e w3 ⟨rfl, ⟨j3, k3⟩, g3⟩
          go_wp2
          go_ret2
          rw [HS.out]
          exact ⟨⟨[], rfl⟩, ⟨_, k3⟩, G2.trans g3⟩
        · rw [hx] at DG hE2
          have HS := Lib.hid hE2
          clear hE hE2 hp hx
          rw [e1]
          clear e1
          go_wp2_with fail
          refine DG.mono ?_
          rintro e w3 ⟨rfl, k3, g3⟩
          go_wp2
          go_ret2
          rw [HS.out]
          exact ⟨rfl, k3, G2.trans g3⟩
      rw [if_neg h120] at hE
      by_cases h117 : c = 117
      · subst h117
        have hE2 := hE.trans (if_pos rfl)
        have DG := digits_any 4 (by decide) k2 hce hl
        rcases hx : hexGo l 4 j 0 with _ | ⟨u, j2⟩
        · rw [hx] at DG hE2
          have HS := Lib.hid hE2
          clear hE hE2 hp hx
          rw [e1]
          clear e1
          go_wp2_with fail
          refine DG.mono ?_
          rintro e w3 ⟨rfl, ⟨j3, k3⟩, g3⟩
          go_wp2
          go_ret2
          rw [HS.out]
          exact ⟨⟨[], rfl⟩, ⟨_, k3⟩, G2.trans g3⟩
        · rw [hx] at DG hE2
          have HS := Lib.hid hE2
          clear hE hE2 hp hx
          rw [e1]
          clear e1
          go_wp2_with fail
          refine DG.mono ?_
          rintro e w3 ⟨rfl, k3, g3⟩
          go_wp2
          go_ret2
          rw [HS.out]
          exact ⟨rfl, k3, G2.trans g3⟩
      rw [if_neg h117] at hE
      have PK := fun (w' : World) (hp : Pur w2 w') => peek_any (k2.pur hp)
      have hb8 := by8_lt l j
      by_cases h48 : c = 48
      · subst h48
        rw [if_pos rfl] at hE
        have DG := fun w => digit_any (by8 l j) w
        rcases hx : digit (by8 l j) with _ | _
        all_goals
          rw [hx] at DG hE
          have HS := Lib.hid hE
          clear hE hp hx
          rw [e1]
          clear e1
          go_wp2_with fail
          refine (PK _ (Pur.refl _)).mono ?_
          rintro e w3 ⟨rfl, p3⟩
          go_wp2_with fail
          refine (DG _).mono ?_
          rintro e w4 ⟨rfl, rfl⟩
          go_wp2
          go_ret2
          rw [HS.out]
          first | exact ⟨rfl, k2.pur p3, G2.pur p3⟩ | exact ⟨⟨[0, 0], rfl⟩, ⟨_, k2.pur p3⟩, G2.pur p3⟩
      rw [if_neg h48] at hE
      have d120 : ((c : Int) == 120) = false := by rw [beq_eq_false_iff_ne]; omega
      have d117 : ((c : Int) == 117) = false := by rw [beq_eq_false_iff_ne]; omega
      have d48 : ((c : Int) == 48) = false := by rw [beq_eq_false_iff_ne]; omega
      rw [e1]
      clear e1 h120 h117 h48
      by_cases h49 : 49 ≤ c ∧ c ≤ 57
      · rw [if_pos h49] at hE
        have HS := Lib.hid hE
        have g1 : decide ((49 : Int) ≤ (c : Int)) = true := by rw [decide_eq_true_eq]; omega
        have g2 : decide ((c : Int) ≤ 57) = true := by rw [decide_eq_true_eq]; omega
        clear hE hp h49
        go_wp2
        go_ret2
        rw [HS.out]
        exact ⟨⟨[], rfl⟩, ⟨_, k2⟩, G2⟩
      rw [if_neg h49] at hE
      have g3 : (decide ((49 : Int) ≤ (c : Int)) && decide ((c : Int) ≤ 57)) = false := by
        rw [Bool.and_eq_false_iff, decide_eq_false_iff_not, decide_eq_false_iff_not]; omega
      have g3' : (decide ((49 : Int) ≤ (c : Int)) = false) ∨ (decide ((49 : Int) ≤ (c : Int)) = true ∧ decide ((c : Int) ≤ 57) = false) := by
        rcases g1 : decide ((49 : Int) ≤ (c : Int)) with _ | _
        · exact .inl rfl
        · rw [g1] at g3; exact .inr ⟨rfl, by simpa using g3⟩
      clear g3
      by_cases h13 : c = 13
      · subst h13
        clear d120 d117 d48 h49 g3'
        by_cases h10 : by8 l j = 10
        · rw [if_pos ⟨rfl, h10⟩] at hE
          have HS := Lib.hid hE
          have hjl : j < l.length := at_lt (by omega)
          have w5' : IntKind.i64.wrap ((j : Int) + 1) = (j : Int) + 1 := IntWalk.i64_in _ (by omega)
          rw [h10] at PK
          clear hE hp h10 hb8
          go_wp2_with fail
          refine (PK _ (Pur.refl _)).mono ?_
          rintro e w3 ⟨rfl, p3⟩
          have k3 := k2.pur p3
          have c1 := k3.c1
          have f1 := k3.f 1
          have k4 := k3.seti (j + 1) ((j : Int) + 1) (by omega)
          have G4 := (G2.pur p3).trans (chg1 p w3 1 (.int .i64 ((j : Int) + 1)))
          go_wp2
          go_ret2
          rw [HS.out]
          exact ⟨rfl, k4, G4⟩
        · rw [if_neg (fun g => h10 g.2), if_pos (by decide)] at hE
          have HS := Lib.hid hE
          have d10 : ((by8 l j : Int) == 10) = false := by rw [beq_eq_false_iff_ne]; omega
          clear hE hp h10 hb8
          go_wp2_with fail
          refine (PK _ (Pur.refl _)).mono ?_
          rintro e w3 ⟨rfl, p3⟩
          go_wp2
          go_ret2
          rw [HS.out]
          exact ⟨rfl, k2.pur p3, G2.pur p3⟩
      rw [if_neg (fun g => h13 g.1)] at hE
      have d13 : ((c : Int) == 13) = false := by rw [beq_eq_false_iff_ne]; omega
      rcases hEc : endsC c with _ | _
      · rw [hEc, if_neg (by simp)] at hE
        obtain ⟨y1, y2, y3, y4⟩ := ends_no hEc
        have HS := Lib.hid hE
        have WD := fun w' hT => widec_any c hok w' hT
        have he := encode_enc c hok
        clear hE hp hEc h13 h49 PK hb8
        rcases g3' with g1 | ⟨g1, g2⟩
        all_goals
          go_wp2_with fail
          refine (WD _ B2.w).mono ?_
          rintro e w3 ⟨rfl, p3⟩
          go_wp2
          go_ret2
          rw [HS.out]
          exact ⟨rfl, k2.pur p3, G2.pur p3⟩
      · rw [hEc, if_pos rfl] at hE
        have HS := Lib.hid hE
        have hw : c = 10 ∨ c = 8232 ∨ c = 8233 := by
          have : c = 10 ∨ c = 13 ∨ c = 8232 ∨ c = 8233 := by simpa [endsC] using hEc
          omega
        clear hE hp hEc h13 h49 PK hb8 d120 d117 d48 d13 g3'
        rcases hw with rfl | rfl | rfl
        all_goals
          go_wp2
          go_ret2
          rw [HS.out]
          exact ⟨rfl, k2, G2⟩
    · rw [hp] at hE
      simp only at hE
      have HS := Lib.hid hE
      have hw := plain_way hp
      clear hE hp
      rcases hw with ⟨rfl, rfl⟩ | ⟨rfl, rfl⟩ | ⟨rfl, rfl⟩ | ⟨rfl, rfl⟩ | ⟨rfl, rfl⟩ | ⟨rfl, rfl⟩
      · have WD : ∀ w', LW w' → Calls Tryz.prog 46 #[.string ⟨#[8]⟩] w' fun e w'' => e = .returned (.string ⟨#[0, 8]⟩) ∧ Pur w' w'' := fun w' hT => widec_any 8 (by unfold okc; omega) w' hT
        rw [show escI 98 = 0 from rfl]
        go_wp2_with fail
        refine (WD _ B2.w).mono ?_
        rintro e w3 ⟨rfl, p3⟩
        go_wp2
        go_ret2
        rw [HS.out]
        exact ⟨rfl, k2.pur p3, G2.pur p3⟩
      · have WD : ∀ w', LW w' → Calls Tryz.prog 46 #[.string ⟨#[9]⟩] w' fun e w'' => e = .returned (.string ⟨#[0, 9]⟩) ∧ Pur w' w'' := fun w' hT => widec_any 9 (by unfold okc; omega) w' hT
        rw [show escI 116 = 1 from rfl]
        go_wp2_with fail
        refine (WD _ B2.w).mono ?_
        rintro e w3 ⟨rfl, p3⟩
        go_wp2
        go_ret2
        rw [HS.out]
        exact ⟨rfl, k2.pur p3, G2.pur p3⟩
      · have WD : ∀ w', LW w' → Calls Tryz.prog 46 #[.string ⟨#[10]⟩] w' fun e w'' => e = .returned (.string ⟨#[0, 10]⟩) ∧ Pur w' w'' := fun w' hT => widec_any 10 (by unfold okc; omega) w' hT
        rw [show escI 110 = 2 from rfl]
        go_wp2_with fail
        refine (WD _ B2.w).mono ?_
        rintro e w3 ⟨rfl, p3⟩
        go_wp2
        go_ret2
        rw [HS.out]
        exact ⟨rfl, k2.pur p3, G2.pur p3⟩
      · have WD : ∀ w', LW w' → Calls Tryz.prog 46 #[.string ⟨#[11]⟩] w' fun e w'' => e = .returned (.string ⟨#[0, 11]⟩) ∧ Pur w' w'' := fun w' hT => widec_any 11 (by unfold okc; omega) w' hT
        rw [show escI 118 = 3 from rfl]
        go_wp2_with fail
        refine (WD _ B2.w).mono ?_
        rintro e w3 ⟨rfl, p3⟩
        go_wp2
        go_ret2
        rw [HS.out]
        exact ⟨rfl, k2.pur p3, G2.pur p3⟩
      · have WD : ∀ w', LW w' → Calls Tryz.prog 46 #[.string ⟨#[12]⟩] w' fun e w'' => e = .returned (.string ⟨#[0, 12]⟩) ∧ Pur w' w'' := fun w' hT => widec_any 12 (by unfold okc; omega) w' hT
        rw [show escI 102 = 4 from rfl]
        go_wp2_with fail
        refine (WD _ B2.w).mono ?_
        rintro e w3 ⟨rfl, p3⟩
        go_wp2
        go_ret2
        rw [HS.out]
        exact ⟨rfl, k2.pur p3, G2.pur p3⟩
      · have WD : ∀ w', LW w' → Calls Tryz.prog 46 #[.string ⟨#[13]⟩] w' fun e w'' => e = .returned (.string ⟨#[0, 13]⟩) ∧ Pur w' w'' := fun w' hT => widec_any 13 (by unfold okc; omega) w' hT
        rw [show escI 114 = 5 from rfl]
        go_wp2_with fail
        refine (WD _ B2.w).mono ?_
        rintro e w3 ⟨rfl, p3⟩
        go_wp2
        go_ret2
        rw [HS.out]
        exact ⟨rfl, k2.pur p3, G2.pur p3⟩
end Lx
end Go.Proofs.YtepmneongpbglaaGreatDoor
