/- Layer 2, the document's answer: an attribute's value. -/
import Derived.Test.YtaknfofppknloaaGreatDoorTr5
import Derived.Test.YtaknfofppknloaaGreatDoorTk9
namespace Go.Proofs.YtaknfofppknloaaGreatDoor
open Go Go.RowKit
set_option linter.all false
namespace Tk
variable {w : World} {r : Ro} {cs : Cs} {i e : Nat} {wh : Nat × Nat}
theorem Sc.err (h : Sc w r cs i e wh) : natAt w ⟨r.p, 4, none⟩ = e := by simp [natAt, h.c4]
theorem narrow_snc (a : Cs) (c : Nat) : narrow (a ++ [c]) = narrow a ++ enc c := by simp [narrow]
theorem narrow_nil' : narrow [] = [] := rfl
set_option maxRecDepth 100000 in
set_option maxHeartbeats 16000000 in
theorem rvalue_any (h : Sc w r cs i 0 wh) (hi : i ≤ cs.length) : Calls Tryz.prog 61 #[.pointer (some ⟨r.p, 0, none⟩)] w fun e w' => Ends w r cs i wh (value (cs.drop i)) (fun v => .string ⟨(narrow v).toArray⟩) Str 1 e w' := by
  have hcl := h.clen
  have c3 := h.c3
  have CC := c_any h i (by omega)
  by_cases hm : pk (cs.drop i) = 34 ∨ pk (cs.drop i) = 39
  · obtain ⟨mark, q, hq, hmk⟩ : ∃ mark q, cs.drop i = mark :: q ∧ (mark = 34 ∨ mark = 39) := by
      cases hx : cs.drop i with
      | nil => rw [hx] at hm; simp [pk] at hm
      | cons x q => rw [hx] at hm; simp only [pk] at hm; exact ⟨x, q, rfl, by omega⟩
    have hil : i < cs.length := by
      rcases Nat.lt_or_ge i cs.length with g | g
      · exact g
      · rw [List.drop_of_length_le g] at hq; cases hq
    have hq1 : cs.drop (i + 1) = q := by rw [← List.drop_drop, hq]; rfl
    have hv : value (cs.drop i) = valGo mark (q.length + 1) q := by
      rw [hq]; simp only [value]; rw [if_pos hmk]
    have hpk : pk (cs.drop i) = (mark : Int) := by rw [hq]; rfl
    rw [hpk] at CC
    have hv := Lib.hid hv
    have w1 : IntKind.i64.wrap ((i : Int) + 1) = (i : Int) + 1 := IntWalk.i64_in _ (by omega)
    have f3 := h.f 3
    have k4 := h.seti (i + 1) ((i : Int) + 1) (by omega)
    have hc4 := Chg.seti r w 3 (.int .i64 ((i : Int) + 1))
    have hm2 : ((mark : Int) != 34 && (mark : Int) != 39) = false := by rcases hmk with rfl | rfl <;> rfl
    have hmb : mark = 34 ∨ mark = 39 := hmk
    clear hm hpk hq
    rcases hmk with rfl | rfl
    · clear hm2
      go_enter Tryz.func61, Tryz.ntmps61
      go_wp2_with fail
      refine CC.mono ?_
      rintro e1 w1 ⟨rfl, rfl⟩
      go_wp2
      go_loopw [4] (fun s wr => (∃ (j f : Nat) (acc : Cs), i + 1 ≤ j ∧ j ≤ cs.length ∧ cs.length - j < f ∧ acc.length ≤ j ∧ s = .string ⟨(narrow acc).toArray⟩ ∧ Sc wr r cs j 0 wh ∧ Chg [r.p] w wr ∧ Hid (value (cs.drop i) = (valGo 34 f (cs.drop j)).and fun a z => .ok (acc ++ a, z))) ∨
        (∃ (j k n : Nat) (u : List UInt8), i ≤ j ∧ j ≤ cs.length ∧ n ≠ 0 ∧ s = .string ⟨u.toArray⟩ ∧ u.length ≤ 300000 ∧ Sc wr r cs j n (place cs (cs.length - k)) ∧ Chg [r.p] w wr ∧ Hid (value (cs.drop i) = .error (k, n)))) (fun _ wr => if natAt wr ⟨r.p, 4, none⟩ = 0 then cs.length + 2 - natAt wr ⟨r.p, 3, none⟩ else 0)
      case atStart => exact .inl ⟨i + 1, q.length + 1, [], by omega, by omega, by rw [← hq1, List.length_drop]; omega, by simp, rfl, k4, hc4, Lib.hid (by rw [hv.out, hq1]; rcases valGo 34 (q.length + 1) q with x | ⟨x, y⟩ <;> simp)⟩
      case round =>
        rcases hrel with ⟨j, f, acc, j1, j2, hf, hac, rfl, h3, h4, H⟩ | ⟨j, k, n, u, j1, j2, hn, rfl, hu, h3, h4, H⟩
        · have c3 := h3.c3
          have c4 := h3.c4
          have CJ := c_any h3 j (by omega)
          have e3 := h3.nat
          have e4 := h3.err
          obtain ⟨f, rfl⟩ : ∃ g, f = g + 1 := ⟨f - 1, by omega⟩
          have hnl := narrow_len acc
          by_cases hx : pk (cs.drop j) = 34
          · -- the end
            have hd : ∃ z, cs.drop j = 34 :: z := by
              cases hh : cs.drop j with
              | nil => rw [hh] at hx; simp [pk] at hx
              | cons x z => rw [hh] at hx; simp only [pk] at hx; exact ⟨z, by rw [show x = 34 by omega]⟩
            obtain ⟨z, hz⟩ := hd
            have hjl : j < cs.length := by
              rcases Nat.lt_or_ge j cs.length with g | g
              · exact g
              · rw [List.drop_of_length_le g] at hz; cases hz
            have hz1 : cs.drop (j + 1) = z := by rw [← List.drop_drop, hz]; rfl
            have hres := Lib.hid (show value (cs.drop i) = .ok (acc, z) by rw [H.out, hz, valGo, if_pos rfl, and_ok, List.append_nil])
            rw [hx] at CJ
            have wj : IntKind.i64.wrap ((j : Int) + 1) = (j : Int) + 1 := IntWalk.i64_in _ (by omega)
            have f3 := h3.f 3
            have k5 := h3.seti (j + 1) ((j : Int) + 1) (by omega)
            have hc5 := h4.trans (Chg.seti r wr 3 (.int .i64 ((j : Int) + 1)))
            clear H hx hz CC
            go_wp2_with fail
            refine CJ.mono ?_
            rintro e1 w1 ⟨rfl, rfl⟩
            go_wp2
            go_ret
            rw [hres.out]
            exact ⟨rfl, j + 1, hz1, by omega, by omega, k5, hc5⟩
          · have dne : (pk (cs.drop j) != 34) = true := by simp [hx]
            by_cases hbad : pk (cs.drop j) < 0 ∨ pk (cs.drop j) = 60
            · -- what may not stand here
              have hres := Lib.hid (show value (cs.drop i) = .error (cs.length - j, 21) by
                rw [H.out, ← List.length_drop]
                cases hh : cs.drop j with
                | nil => rw [valGo]; rfl
                | cons x z =>
                  rw [hh] at hx hbad
                  simp only [pk] at hx hbad
                  rw [valGo, if_neg (by omega), if_pos (by omega)]; rfl)
              have BO := bad_ok h3 j 21 (by omega)
              generalize pk (cs.drop j) = x at *
              clear H hx CC
              rcases hbad with hb | hb
              · have d1 : decide (x < 0) = true := by simpa using hb
                clear hb
                go_wp2_with fail
                refine CJ.mono ?_
                rintro e1 w1 ⟨rfl, rfl⟩
                go_wp2_with fail
                refine CJ.mono ?_
                rintro e1 w1 ⟨rfl, rfl⟩
                go_wp2_with fail
                refine BO.mono ?_
                rintro e1 w4 ⟨rfl, h5, hc5⟩
                have e5 := h5.err
                go_wp2
                go_roundw
                case rel => exact .inr ⟨j, cs.length - j, 21, narrow acc, by omega, by omega, by omega, rfl, by omega, by rw [show cs.length - (cs.length - j) = j by omega]; exact h5, h4.trans hc5, hres⟩
                case measure => rw [e5, e4, e3, if_neg (by omega), if_pos rfl]; omega
              · subst hb
                go_wp2_with fail
                refine CJ.mono ?_
                rintro e1 w1 ⟨rfl, rfl⟩
                go_wp2_with fail
                refine CJ.mono ?_
                rintro e1 w1 ⟨rfl, rfl⟩
                go_wp2_with fail
                refine BO.mono ?_
                rintro e1 w4 ⟨rfl, h5, hc5⟩
                have e5 := h5.err
                go_wp2
                go_roundw
                case rel => exact .inr ⟨j, cs.length - j, 21, narrow acc, by omega, by omega, by omega, rfl, by omega, by rw [show cs.length - (cs.length - j) = j by omega]; exact h5, h4.trans hc5, hres⟩
                case measure => rw [e5, e4, e3, if_neg (by omega), if_pos rfl]; omega
            · obtain ⟨x, z, hxz, hxm, hx60⟩ : ∃ x z, cs.drop j = x :: z ∧ x ≠ 34 ∧ x ≠ 60 := by
                cases hh : cs.drop j with
                | nil => rw [hh] at hbad; simp [pk] at hbad
                | cons x z => rw [hh] at hx hbad; simp only [pk] at hx hbad; exact ⟨x, z, rfl, by omega, by omega⟩
              have hjl : j < cs.length := by
                rcases Nat.lt_or_ge j cs.length with g | g
                · exact g
                · rw [List.drop_of_length_le g] at hxz; cases hxz
              have hxg : cs.getD j 0 = x := by
                rw [drop_cons cs j hjl] at hxz
                exact (List.cons.inj hxz).1
              have hz1 : cs.drop (j + 1) = z := by rw [← List.drop_drop, hxz]; rfl
              have hpk : pk (cs.drop j) = (x : Int) := by rw [hxz]; rfl
              rw [hpk] at CJ dne
              have d1 : decide ((x : Int) < 0) = false := by simp <;> omega
              have d2 : ((x : Int) == 60) = false := by rw [beq_eq_false_iff_ne]; omega
              by_cases h38 : x = 38
              · -- a reference
                have RF := rref_any h3 ⟨z, by rw [hxz, h38]⟩
                have hg : valGo 34 (f + 1) (cs.drop j) = (reference (cs.drop j)).and fun v q => (valGo 34 f q).and fun a z => .ok (v :: a, z) := by
                  rw [hxz, h38, valGo, if_neg (by omega), if_neg (by omega), if_pos rfl]
                have d38 : ((x : Int) == 38) = true := by rw [beq_iff_eq]; omega
                rcases hrf : reference (cs.drop j) with ⟨k, n⟩ | ⟨v, y⟩
                · rw [hrf] at RF hg
                  have hres := Lib.hid (show value (cs.drop i) = .error (k, n) by rw [H.out, hg]; rfl)
                  have z0 : ¬ 9223372036854775807 < (narrow acc).length := by omega
                  generalize hna : narrow acc = na at *
                  clear H hg hrf hx hbad hpk hxz hxm hx60 hxg h38 CC
                  go_wp2_with fail
                  refine CJ.mono ?_
                  rintro e1 w1 ⟨rfl, rfl⟩
                  go_wp2_with fail
                  refine CJ.mono ?_
                  rintro e1 w1 ⟨rfl, rfl⟩
                  go_wp2_with fail
                  refine RF.mono ?_
                  rintro e1 w4 ⟨⟨u', rfl, rfl⟩, j', m1, m2, m3, h5, hc5⟩
                  have e5 := h5.err
                  go_wp2
                  go_roundw
                  case rel => exact .inr ⟨j', k, n, na, by omega, by omega, m3, (by first | rfl | simp), by omega, h5, h4.trans hc5, hres⟩
                  case measure => rw [e5, e4, e3, if_neg m3, if_pos rfl]; omega
                · rw [hrf] at RF hg
                  simp only [and_ok] at hg
                  have HS := Lib.hid (value_step H.out hg)
                  have hyl := (ref_ok hrf).2
                  rw [List.length_drop] at hyl
                  have hel := enc_length_le v
                  have z0 : ¬ 9223372036854775807 < (narrow acc).length + (enc v).length := by omega
                  have hns := Lib.hid (narrow_snc acc v)
                  generalize hna : narrow acc = na at *
                  clear H hg hrf hx hbad hpk hxz hxm hx60 hxg h38 CC hna
                  go_wp2_with fail
                  refine CJ.mono ?_
                  rintro e1 w1 ⟨rfl, rfl⟩
                  go_wp2_with fail
                  refine CJ.mono ?_
                  rintro e1 w1 ⟨rfl, rfl⟩
                  go_wp2_with fail
                  refine RF.mono ?_
                  rintro e1 w4 ⟨rfl, j', m0, m1, m2, h5, hc5⟩
                  have m4 : j < j' := by
                    have : y.length = cs.length - j' := by rw [← m0, List.length_drop]
                    omega
                  have m0 := Lib.hid m0
                  clear hyl
                  have e5 := h5.err
                  have e6 := h5.nat
                  go_wp2
                  go_roundw
                  case rel => exact .inl ⟨j', f, acc ++ [v], by omega, m2, by omega, by simp; omega, by rw [hns.out], h5, h4.trans hc5, by rw [m0.out]; exact HS⟩
                  case measure => rw [e5, e4, e3, e6, if_pos rfl, if_pos rfl]; omega
              · -- a character
                have d38 : ((x : Int) == 38) = false := by rw [beq_eq_false_iff_ne]; omega
                have hg : valGo 34 (f + 1) (cs.drop j) = (valGo 34 f (cs.drop (j + 1))).and fun a z => .ok ((if blank x then 32 else x) :: a, z) := by
                  rw [hxz, valGo, if_neg hxm, if_neg hx60, if_neg h38, hz1]
                have HS := Lib.hid (value_step H.out hg)
                have BL := fun w => rblank_any (x : Int) w (by omega)
                have hon : on blank (x : Int) = blank x := by simp [on]
                rw [hon] at BL
                have wj : IntKind.i64.wrap ((j : Int) + 1) = (j : Int) + 1 := IntWalk.i64_in _ (by omega)
                rcases hbl : blank x with _ | _
                · rw [hbl] at BL HS
                  simp only [Bool.false_eq_true, if_false] at HS
                  obtain ⟨ta, tc, htv, htc, hcell⟩ := h3.tshape
                  obtain ⟨g, rfl, -⟩ := hcell j hjl
                  have T0 : ∀ y : PW wr, y.to.cell? ⟨r.p, 0, none⟩ = some (.slice (some ⟨g, 0, none⟩) cs.length tc) := fun y => htv ▸ (h3.pur y.pur).c0
                  have T3 : ∀ y : PW wr, y.to.cell? ⟨r.p, 3, none⟩ = some (.int .i64 (j : Int)) := fun y => (h3.pur y.pur).c3
                  have TX : ∀ y : PW wr, y.to.cell? ⟨g, j, none⟩ = some (.string ⟨(enc x).toArray⟩) := fun y => by
                    obtain ⟨ta', tc', htv', -, hcell'⟩ := (h3.pur y.pur).tshape
                    rw [htv] at htv'
                    cases htv'
                    obtain ⟨g', hg', hk'⟩ := hcell' j hjl
                    cases hg'
                    rw [hxg] at hk'
                    exact hk'
                  have hjl' : (j : Int) < cs.length := by omega
                  have hel := enc_length_le x
                  have z0 : ¬ 9223372036854775807 < (narrow acc).length + (enc x).length := by omega
                  have hns := Lib.hid (narrow_snc acc x)
                  generalize hna : narrow acc = na at *
                  generalize hev : enc x = ev at *
                  clear H hg hx hbad hpk hxz hxm hx60 hxg h38 CC hev hna hcell htv hbl hz1
                  go_wp2_with fail
                  refine CJ.mono ?_
                  rintro e1 w1 ⟨rfl, rfl⟩
                  go_wp2_with fail
                  refine CJ.mono ?_
                  rintro e1 w1 ⟨rfl, rfl⟩
                  go_wp2_with fail
                  refine (BL _).mono ?_
                  rintro e1 w1 ⟨rfl, rfl⟩
                  go_wp2
                  refine wp_region_pur (by kernel_rfl) (by kernel_rfl) ?_
                  repeat (go_big_quiet_step (fail))
                  refine wpQuiet_nil ?_
                  intro wq hq2
                  have k6 := h3.pur hq2
                  have c3 := k6.c3
                  have f3 := k6.f 3
                  have k7 := k6.seti (j + 1) ((j : Int) + 1) (by omega)
                  have e5 := k7.err
                  have e6 := k7.nat
                  have hc7 := (h4.pur hq2).trans (Chg.seti r wq 3 (.int .i64 ((j : Int) + 1)))
                  clear T0 T3 TX
                  go_wp2
                  go_roundw
                  case rel => exact .inl ⟨j + 1, f, acc ++ [x], by omega, by omega, by omega, by simp; omega, by rw [hns.out], k7, hc7, HS⟩
                  case measure => rw [e5, e4, e3, e6, if_pos rfl, if_pos rfl]; omega
                · rw [hbl] at BL HS
                  simp only [if_true] at HS
                  have z0 : ¬ 9223372036854775807 < (narrow acc).length + 1 := by omega
                  have hns := Lib.hid (show narrow (acc ++ [32]) = narrow acc ++ [32] from narrow_snc acc 32)
                  have f3 := h3.f 3
                  have k7 := h3.seti (j + 1) ((j : Int) + 1) (by omega)
                  have e5 := k7.err
                  have e6 := k7.nat
                  have hc7 := h4.trans (Chg.seti r wr 3 (.int .i64 ((j : Int) + 1)))
                  generalize hna : narrow acc = na at *
                  clear H hg hx hbad hpk hxz hxm hx60 hxg h38 CC hna hbl hz1
                  go_wp2_with fail
                  refine CJ.mono ?_
                  rintro e1 w1 ⟨rfl, rfl⟩
                  go_wp2_with fail
                  refine CJ.mono ?_
                  rintro e1 w1 ⟨rfl, rfl⟩
                  go_wp2_with fail
                  refine (BL _).mono ?_
                  rintro e1 w1 ⟨rfl, rfl⟩
                  go_wp2
                  go_roundw
                  case rel => exact .inl ⟨j + 1, f, acc ++ [32], by omega, by omega, by omega, by simp; omega, by rw [hns.out], k7, hc7, HS⟩
                  case measure => rw [e5, e4, e3, e6, if_pos rfl, if_pos rfl]; omega
        · -- a fault has been told
          have c3 := h3.c3
          have c4 := h3.c4
          have dn : ((n : Int) == 0) = false := by rw [beq_eq_false_iff_ne]; omega
          have wj : IntKind.i64.wrap ((j : Int) + 1) = (j : Int) + 1 := IntWalk.i64_in _ (by omega)
          have f3 := h3.f 3
          have k5 := h3.seti (j + 1) ((j : Int) + 1) (by omega)
          have hc5 := h4.trans (Chg.seti r wr 3 (.int .i64 ((j : Int) + 1)))
          clear CC
          go_wp2
          go_ret
          rw [H.out]
          exact ⟨⟨_, rfl, u, rfl, by omega⟩, j + 1, by omega, by omega, hn, k5, hc5⟩
    · clear hm2
      go_enter Tryz.func61, Tryz.ntmps61
      go_wp2_with fail
      refine CC.mono ?_
      rintro e1 w1 ⟨rfl, rfl⟩
      go_wp2
      go_loopw [4] (fun s wr => (∃ (j f : Nat) (acc : Cs), i + 1 ≤ j ∧ j ≤ cs.length ∧ cs.length - j < f ∧ acc.length ≤ j ∧ s = .string ⟨(narrow acc).toArray⟩ ∧ Sc wr r cs j 0 wh ∧ Chg [r.p] w wr ∧ Hid (value (cs.drop i) = (valGo 39 f (cs.drop j)).and fun a z => .ok (acc ++ a, z))) ∨
        (∃ (j k n : Nat) (u : List UInt8), i ≤ j ∧ j ≤ cs.length ∧ n ≠ 0 ∧ s = .string ⟨u.toArray⟩ ∧ u.length ≤ 300000 ∧ Sc wr r cs j n (place cs (cs.length - k)) ∧ Chg [r.p] w wr ∧ Hid (value (cs.drop i) = .error (k, n)))) (fun _ wr => if natAt wr ⟨r.p, 4, none⟩ = 0 then cs.length + 2 - natAt wr ⟨r.p, 3, none⟩ else 0)
      case atStart => exact .inl ⟨i + 1, q.length + 1, [], by omega, by omega, by rw [← hq1, List.length_drop]; omega, by simp, rfl, k4, hc4, Lib.hid (by rw [hv.out, hq1]; rcases valGo 39 (q.length + 1) q with x | ⟨x, y⟩ <;> simp)⟩
      case round =>
        rcases hrel with ⟨j, f, acc, j1, j2, hf, hac, rfl, h3, h4, H⟩ | ⟨j, k, n, u, j1, j2, hn, rfl, hu, h3, h4, H⟩
        · have c3 := h3.c3
          have c4 := h3.c4
          have CJ := c_any h3 j (by omega)
          have e3 := h3.nat
          have e4 := h3.err
          obtain ⟨f, rfl⟩ : ∃ g, f = g + 1 := ⟨f - 1, by omega⟩
          have hnl := narrow_len acc
          by_cases hx : pk (cs.drop j) = 39
          · -- the end
            have hd : ∃ z, cs.drop j = 39 :: z := by
              cases hh : cs.drop j with
              | nil => rw [hh] at hx; simp [pk] at hx
              | cons x z => rw [hh] at hx; simp only [pk] at hx; exact ⟨z, by rw [show x = 39 by omega]⟩
            obtain ⟨z, hz⟩ := hd
            have hjl : j < cs.length := by
              rcases Nat.lt_or_ge j cs.length with g | g
              · exact g
              · rw [List.drop_of_length_le g] at hz; cases hz
            have hz1 : cs.drop (j + 1) = z := by rw [← List.drop_drop, hz]; rfl
            have hres := Lib.hid (show value (cs.drop i) = .ok (acc, z) by rw [H.out, hz, valGo, if_pos rfl, and_ok, List.append_nil])
            rw [hx] at CJ
            have wj : IntKind.i64.wrap ((j : Int) + 1) = (j : Int) + 1 := IntWalk.i64_in _ (by omega)
            have f3 := h3.f 3
            have k5 := h3.seti (j + 1) ((j : Int) + 1) (by omega)
            have hc5 := h4.trans (Chg.seti r wr 3 (.int .i64 ((j : Int) + 1)))
            clear H hx hz CC
            go_wp2_with fail
            refine CJ.mono ?_
            rintro e1 w1 ⟨rfl, rfl⟩
            go_wp2
            go_ret
            rw [hres.out]
            exact ⟨rfl, j + 1, hz1, by omega, by omega, k5, hc5⟩
          · have dne : (pk (cs.drop j) != 39) = true := by simp [hx]
            by_cases hbad : pk (cs.drop j) < 0 ∨ pk (cs.drop j) = 60
            · -- what may not stand here
              have hres := Lib.hid (show value (cs.drop i) = .error (cs.length - j, 21) by
                rw [H.out, ← List.length_drop]
                cases hh : cs.drop j with
                | nil => rw [valGo]; rfl
                | cons x z =>
                  rw [hh] at hx hbad
                  simp only [pk] at hx hbad
                  rw [valGo, if_neg (by omega), if_pos (by omega)]; rfl)
              have BO := bad_ok h3 j 21 (by omega)
              generalize pk (cs.drop j) = x at *
              clear H hx CC
              rcases hbad with hb | hb
              · have d1 : decide (x < 0) = true := by simpa using hb
                clear hb
                go_wp2_with fail
                refine CJ.mono ?_
                rintro e1 w1 ⟨rfl, rfl⟩
                go_wp2_with fail
                refine CJ.mono ?_
                rintro e1 w1 ⟨rfl, rfl⟩
                go_wp2_with fail
                refine BO.mono ?_
                rintro e1 w4 ⟨rfl, h5, hc5⟩
                have e5 := h5.err
                go_wp2
                go_roundw
                case rel => exact .inr ⟨j, cs.length - j, 21, narrow acc, by omega, by omega, by omega, rfl, by omega, by rw [show cs.length - (cs.length - j) = j by omega]; exact h5, h4.trans hc5, hres⟩
                case measure => rw [e5, e4, e3, if_neg (by omega), if_pos rfl]; omega
              · subst hb
                go_wp2_with fail
                refine CJ.mono ?_
                rintro e1 w1 ⟨rfl, rfl⟩
                go_wp2_with fail
                refine CJ.mono ?_
                rintro e1 w1 ⟨rfl, rfl⟩
                go_wp2_with fail
                refine BO.mono ?_
                rintro e1 w4 ⟨rfl, h5, hc5⟩
                have e5 := h5.err
                go_wp2
                go_roundw
                case rel => exact .inr ⟨j, cs.length - j, 21, narrow acc, by omega, by omega, by omega, rfl, by omega, by rw [show cs.length - (cs.length - j) = j by omega]; exact h5, h4.trans hc5, hres⟩
                case measure => rw [e5, e4, e3, if_neg (by omega), if_pos rfl]; omega
            · obtain ⟨x, z, hxz, hxm, hx60⟩ : ∃ x z, cs.drop j = x :: z ∧ x ≠ 39 ∧ x ≠ 60 := by
                cases hh : cs.drop j with
                | nil => rw [hh] at hbad; simp [pk] at hbad
                | cons x z => rw [hh] at hx hbad; simp only [pk] at hx hbad; exact ⟨x, z, rfl, by omega, by omega⟩
              have hjl : j < cs.length := by
                rcases Nat.lt_or_ge j cs.length with g | g
                · exact g
                · rw [List.drop_of_length_le g] at hxz; cases hxz
              have hxg : cs.getD j 0 = x := by
                rw [drop_cons cs j hjl] at hxz
                exact (List.cons.inj hxz).1
              have hz1 : cs.drop (j + 1) = z := by rw [← List.drop_drop, hxz]; rfl
              have hpk : pk (cs.drop j) = (x : Int) := by rw [hxz]; rfl
              rw [hpk] at CJ dne
              have d1 : decide ((x : Int) < 0) = false := by simp <;> omega
              have d2 : ((x : Int) == 60) = false := by rw [beq_eq_false_iff_ne]; omega
              by_cases h38 : x = 38
              · -- a reference
                have RF := rref_any h3 ⟨z, by rw [hxz, h38]⟩
                have hg : valGo 39 (f + 1) (cs.drop j) = (reference (cs.drop j)).and fun v q => (valGo 39 f q).and fun a z => .ok (v :: a, z) := by
                  rw [hxz, h38, valGo, if_neg (by omega), if_neg (by omega), if_pos rfl]
                have d38 : ((x : Int) == 38) = true := by rw [beq_iff_eq]; omega
                rcases hrf : reference (cs.drop j) with ⟨k, n⟩ | ⟨v, y⟩
                · rw [hrf] at RF hg
                  have hres := Lib.hid (show value (cs.drop i) = .error (k, n) by rw [H.out, hg]; rfl)
                  have z0 : ¬ 9223372036854775807 < (narrow acc).length := by omega
                  generalize hna : narrow acc = na at *
                  clear H hg hrf hx hbad hpk hxz hxm hx60 hxg h38 CC
                  go_wp2_with fail
                  refine CJ.mono ?_
                  rintro e1 w1 ⟨rfl, rfl⟩
                  go_wp2_with fail
                  refine CJ.mono ?_
                  rintro e1 w1 ⟨rfl, rfl⟩
                  go_wp2_with fail
                  refine RF.mono ?_
                  rintro e1 w4 ⟨⟨u', rfl, rfl⟩, j', m1, m2, m3, h5, hc5⟩
                  have e5 := h5.err
                  go_wp2
                  go_roundw
                  case rel => exact .inr ⟨j', k, n, na, by omega, by omega, m3, (by first | rfl | simp), by omega, h5, h4.trans hc5, hres⟩
                  case measure => rw [e5, e4, e3, if_neg m3, if_pos rfl]; omega
                · rw [hrf] at RF hg
                  simp only [and_ok] at hg
                  have HS := Lib.hid (value_step H.out hg)
                  have hyl := (ref_ok hrf).2
                  rw [List.length_drop] at hyl
                  have hel := enc_length_le v
                  have z0 : ¬ 9223372036854775807 < (narrow acc).length + (enc v).length := by omega
                  have hns := Lib.hid (narrow_snc acc v)
                  generalize hna : narrow acc = na at *
                  clear H hg hrf hx hbad hpk hxz hxm hx60 hxg h38 CC hna
                  go_wp2_with fail
                  refine CJ.mono ?_
                  rintro e1 w1 ⟨rfl, rfl⟩
                  go_wp2_with fail
                  refine CJ.mono ?_
                  rintro e1 w1 ⟨rfl, rfl⟩
                  go_wp2_with fail
                  refine RF.mono ?_
                  rintro e1 w4 ⟨rfl, j', m0, m1, m2, h5, hc5⟩
                  have m4 : j < j' := by
                    have : y.length = cs.length - j' := by rw [← m0, List.length_drop]
                    omega
                  have m0 := Lib.hid m0
                  clear hyl
                  have e5 := h5.err
                  have e6 := h5.nat
                  go_wp2
                  go_roundw
                  case rel => exact .inl ⟨j', f, acc ++ [v], by omega, m2, by omega, by simp; omega, by rw [hns.out], h5, h4.trans hc5, by rw [m0.out]; exact HS⟩
                  case measure => rw [e5, e4, e3, e6, if_pos rfl, if_pos rfl]; omega
              · -- a character
                have d38 : ((x : Int) == 38) = false := by rw [beq_eq_false_iff_ne]; omega
                have hg : valGo 39 (f + 1) (cs.drop j) = (valGo 39 f (cs.drop (j + 1))).and fun a z => .ok ((if blank x then 32 else x) :: a, z) := by
                  rw [hxz, valGo, if_neg hxm, if_neg hx60, if_neg h38, hz1]
                have HS := Lib.hid (value_step H.out hg)
                have BL := fun w => rblank_any (x : Int) w (by omega)
                have hon : on blank (x : Int) = blank x := by simp [on]
                rw [hon] at BL
                have wj : IntKind.i64.wrap ((j : Int) + 1) = (j : Int) + 1 := IntWalk.i64_in _ (by omega)
                rcases hbl : blank x with _ | _
                · rw [hbl] at BL HS
                  simp only [Bool.false_eq_true, if_false] at HS
                  obtain ⟨ta, tc, htv, htc, hcell⟩ := h3.tshape
                  obtain ⟨g, rfl, -⟩ := hcell j hjl
                  have T0 : ∀ y : PW wr, y.to.cell? ⟨r.p, 0, none⟩ = some (.slice (some ⟨g, 0, none⟩) cs.length tc) := fun y => htv ▸ (h3.pur y.pur).c0
                  have T3 : ∀ y : PW wr, y.to.cell? ⟨r.p, 3, none⟩ = some (.int .i64 (j : Int)) := fun y => (h3.pur y.pur).c3
                  have TX : ∀ y : PW wr, y.to.cell? ⟨g, j, none⟩ = some (.string ⟨(enc x).toArray⟩) := fun y => by
                    obtain ⟨ta', tc', htv', -, hcell'⟩ := (h3.pur y.pur).tshape
                    rw [htv] at htv'
                    cases htv'
                    obtain ⟨g', hg', hk'⟩ := hcell' j hjl
                    cases hg'
                    rw [hxg] at hk'
                    exact hk'
                  have hjl' : (j : Int) < cs.length := by omega
                  have hel := enc_length_le x
                  have z0 : ¬ 9223372036854775807 < (narrow acc).length + (enc x).length := by omega
                  have hns := Lib.hid (narrow_snc acc x)
                  generalize hna : narrow acc = na at *
                  generalize hev : enc x = ev at *
                  clear H hg hx hbad hpk hxz hxm hx60 hxg h38 CC hev hna hcell htv hbl hz1
                  go_wp2_with fail
                  refine CJ.mono ?_
                  rintro e1 w1 ⟨rfl, rfl⟩
                  go_wp2_with fail
                  refine CJ.mono ?_
                  rintro e1 w1 ⟨rfl, rfl⟩
                  go_wp2_with fail
                  refine (BL _).mono ?_
                  rintro e1 w1 ⟨rfl, rfl⟩
                  go_wp2
                  refine wp_region_pur (by kernel_rfl) (by kernel_rfl) ?_
                  repeat (go_big_quiet_step (fail))
                  refine wpQuiet_nil ?_
                  intro wq hq2
                  have k6 := h3.pur hq2
                  have c3 := k6.c3
                  have f3 := k6.f 3
                  have k7 := k6.seti (j + 1) ((j : Int) + 1) (by omega)
                  have e5 := k7.err
                  have e6 := k7.nat
                  have hc7 := (h4.pur hq2).trans (Chg.seti r wq 3 (.int .i64 ((j : Int) + 1)))
                  clear T0 T3 TX
                  go_wp2
                  go_roundw
                  case rel => exact .inl ⟨j + 1, f, acc ++ [x], by omega, by omega, by omega, by simp; omega, by rw [hns.out], k7, hc7, HS⟩
                  case measure => rw [e5, e4, e3, e6, if_pos rfl, if_pos rfl]; omega
                · rw [hbl] at BL HS
                  simp only [if_true] at HS
                  have z0 : ¬ 9223372036854775807 < (narrow acc).length + 1 := by omega
                  have hns := Lib.hid (show narrow (acc ++ [32]) = narrow acc ++ [32] from narrow_snc acc 32)
                  have f3 := h3.f 3
                  have k7 := h3.seti (j + 1) ((j : Int) + 1) (by omega)
                  have e5 := k7.err
                  have e6 := k7.nat
                  have hc7 := h4.trans (Chg.seti r wr 3 (.int .i64 ((j : Int) + 1)))
                  generalize hna : narrow acc = na at *
                  clear H hg hx hbad hpk hxz hxm hx60 hxg h38 CC hna hbl hz1
                  go_wp2_with fail
                  refine CJ.mono ?_
                  rintro e1 w1 ⟨rfl, rfl⟩
                  go_wp2_with fail
                  refine CJ.mono ?_
                  rintro e1 w1 ⟨rfl, rfl⟩
                  go_wp2_with fail
                  refine (BL _).mono ?_
                  rintro e1 w1 ⟨rfl, rfl⟩
                  go_wp2
                  go_roundw
                  case rel => exact .inl ⟨j + 1, f, acc ++ [32], by omega, by omega, by omega, by simp; omega, by rw [hns.out], k7, hc7, HS⟩
                  case measure => rw [e5, e4, e3, e6, if_pos rfl, if_pos rfl]; omega
        · -- a fault has been told
          have c3 := h3.c3
          have c4 := h3.c4
          have dn : ((n : Int) == 0) = false := by rw [beq_eq_false_iff_ne]; omega
          have wj : IntKind.i64.wrap ((j : Int) + 1) = (j : Int) + 1 := IntWalk.i64_in _ (by omega)
          have f3 := h3.f 3
          have k5 := h3.seti (j + 1) ((j : Int) + 1) (by omega)
          have hc5 := h4.trans (Chg.seti r wr 3 (.int .i64 ((j : Int) + 1)))
          clear CC
          go_wp2
          go_ret
          rw [H.out]
          exact ⟨⟨_, rfl, u, rfl, by omega⟩, j + 1, by omega, by omega, hn, k5, hc5⟩
  · have hv : value (cs.drop i) = .error (cs.length - i, 21) := by
      rw [← List.length_drop]
      cases hx : cs.drop i with
      | nil => rfl
      | cons x q =>
        rw [hx] at hm; simp only [pk] at hm
        simp only [value]
        rw [if_neg (by omega)]
    have hv := Lib.hid hv
    have BO := bad_ok h i 21 (by omega)
    have d1 : (pk (cs.drop i) != 34) = true := by simp; omega
    have d2 : (pk (cs.drop i) != 39) = true := by simp; omega
    generalize pk (cs.drop i) = x at *
    clear hm
    go_enter Tryz.func61, Tryz.ntmps61
    go_wp2_with fail
    refine CC.mono ?_
    rintro e1 w1 ⟨rfl, rfl⟩
    go_wp2_with fail
    refine BO.mono ?_
    rintro e1 w4 ⟨rfl, h5, hc5⟩
    go_wp2
    go_ret
    rw [hv.out]
    refine ⟨⟨_, rfl, Str.nil⟩, i, by omega, by omega, by omega, ?_, hc5⟩
    rw [show cs.length - (cs.length - i) = i by omega]
    exact h5
end Tk
end Go.Proofs.YtaknfofppknloaaGreatDoor
