/- TokTexts: the law. -/
import Derived.Test.YtaknfofppknloaaDoorTk26
namespace Go.Proofs.YtaknfofppknloaaDoor
open Go Go.RowKit
set_option linter.all false
namespace Tk
theorem escB_len (v : Bool) (b : UInt8) : (escB v b).length ≤ 6 := by
  unfold escB
  repeat' split
  all_goals simp
theorem esc_len (v : Bool) (l : List UInt8) : (esc v l).length ≤ 6 * l.length := by
  induction l with
  | nil => simp [esc]
  | cons b l ih =>
    have e : esc v (b :: l) = escB v b ++ esc v l := rfl
    have := escB_len v b
    rw [e, List.length_append, List.length_cons]; omega
set_option maxRecDepth 100000 in
set_option maxHeartbeats 8000000 in
theorem texts_law (s v : List UInt8) (w : World) (hW : TW w) (hls : s.length ≤ 1000000000) (hlv : v.length ≤ 1000000000) : Calls Tryd.prog 5 #[.string ⟨s.toArray⟩, .string ⟨v.toArray⟩] w fun e w' => e = .returned (.bool true) ∧ Pur w w' := by
  by_cases hs : 1000 < s.length
  · go_enter Tryd.func5, Tryd.ntmps5
    go_wp2_with fail
    refine (awake_any w hW).mono ?_
    rintro e w1 ⟨rfl, p1⟩
    go_wp2
    go_ret
    exact ⟨rfl, p1⟩
  by_cases hv : 1000 < v.length
  · go_enter Tryd.func5, Tryd.ntmps5
    go_wp2_with fail
    refine (awake_any w hW).mono ?_
    rintro e w1 ⟨rfl, p1⟩
    go_wp2
    go_ret
    exact ⟨rfl, p1⟩
  have PS := fun w => plain_any s w (by omega)
  have PV := fun w => plain_any v w (by omega)
  have ES := fun w => escaped_any s false w (by omega)
  have EV := fun w => escaped_any v true w (by omega)
  have lS := esc_len false s
  have lV := esc_len true v
  go_enter Tryd.func5, Tryd.ntmps5
  go_wp2_with fail
  refine (awake_any w hW).mono ?_
  rintro e w1 ⟨rfl, p1⟩
  go_wp2_with fail
  refine (PS _).mono ?_
  rintro e w2 ⟨b1, rfl, k1, rfl⟩
  cases b1 with
  | false =>
    clear k1 PV
    go_wp2
    go_ret
    exact ⟨rfl, p1⟩
  | true =>
    go_wp2_with fail
    refine (PV _).mono ?_
    rintro e w3 ⟨b2, rfl, k2, rfl⟩
    cases b2 with
    | false =>
      clear k1 k2
      go_wp2
      go_ret
      exact ⟨rfl, p1⟩
    | true =>
      obtain ⟨cs, rfl, hcs⟩ := k1 (by trivial)
      obtain ⟨cv, rfl, hcv⟩ := k2 (by trivial)
      have hdl : (docB (narrow cs) (narrow cv)).length ≤ 65536 := by
        unfold docB; simp only [List.length_append, List.length_cons, List.length_nil]; omega
      obtain ⟨kk, n0, nb, nm, hwh⟩ := whole_doc cs cv hcs hcv hdl
      have hW1 := hW.pur p1
      clear k1 k2 PS PV hcv
      have T0 := fun w hW => tokens_told (docB (narrow cs) (narrow cv)) w hW
      rw [hwh] at T0
      unfold docB at T0
      simp only [List.cons_append, List.nil_append, List.append_assoc] at T0
      generalize narrow cv = v at *
      rcases cs with _ | ⟨c, cs⟩
      · have e0 : narrow [] = [] := rfl
        have e1 : esc false [] = [] := rfl
        rw [e0] at *
        rw [e1] at *
        simp only [if_true, List.nil_append] at T0
        have z1 : ¬ 9223372036854775807 < 6 + (esc true v).length := by omega
        have z2 : ¬ 9223372036854775807 < 6 + (esc true v).length + 2 := by omega
        have z4 : ¬ 9223372036854775807 < 6 + (esc true v).length + 2 + 5 := by omega
        clear hwh hdl
        go_wp2_with fail
        refine (EV _).mono ?_
        rintro e w2 ⟨rfl, p2⟩
        go_wp2_with fail
        refine (ES _).mono ?_
        rintro e w3 ⟨rfl, p3⟩
        go_wp2_with fail
        refine (T0 _ (hW1.pur (p2.trans p3))).mono ?_
        rintro e w4 ⟨tv, ev, rfl, p4, rfl, hR⟩
        obtain ⟨a, ac, rfl, ⟨hac, -⟩, HA⟩ := hR
        obtain ⟨g, av, rfl, hg, k0, k1, k2, k3, k4, k5, k6, a1, a2, rfl, ⟨hac1, -⟩, HB⟩ := HA 0 _ rfl
        obtain ⟨g', av', e9, -, l0, -⟩ := HA 1 _ rfl
        cases e9
        obtain ⟨g2, rfl, hg2, m0, m1, -⟩ := HB 0 _ rfl
        simp only [Nat.zero_mul, Nat.one_mul, Nat.zero_add] at k0 k1 k2 k3 k4 k5 k6 l0 m0 m1
        have hac' : (2 : Int) ≤ ac := by simp at hac; omega
        have hac1' : (1 : Int) ≤ a2 := by simp at hac1; omega
        clear HA HB T0 ES EV
        go_wp2
        go_ret
        exact ⟨rfl, p1.trans (p2.trans (p3.trans p4))⟩
      · have hne : narrow (c :: cs) ≠ [] := fun e => absurd (narrow_nil.1 e) (by simp)
        simp only [reduceCtorEq, if_false, List.cons_append, List.nil_append] at T0
        generalize narrow (c :: cs) = s at *
        have z1 : ¬ 9223372036854775807 < 6 + (esc true v).length := by omega
        have z2 : ¬ 9223372036854775807 < 6 + (esc true v).length + 2 := by omega
        have z3 : ¬ 9223372036854775807 < 6 + (esc true v).length + 2 + (esc false s).length := by omega
        have z4 : ¬ 9223372036854775807 < 6 + (esc true v).length + 2 + (esc false s).length + 5 := by omega
        have hie : s.isEmpty = false := by cases s with | nil => exact absurd rfl hne | cons b m => rfl
        clear hwh hdl hne
        go_wp2_with fail
        refine (EV _).mono ?_
        rintro e w2 ⟨rfl, p2⟩
        go_wp2_with fail
        refine (ES _).mono ?_
        rintro e w3 ⟨rfl, p3⟩
        go_wp2_with fail
        refine (T0 _ (hW1.pur (p2.trans p3))).mono ?_
        rintro e w4 ⟨tv, ev, rfl, p4, rfl, hR⟩
        obtain ⟨a, ac, rfl, ⟨hac, -⟩, HA⟩ := hR
        obtain ⟨g, av, rfl, hg, k0, k1, k2, k3, k4, k5, k6, a1, a2, rfl, ⟨hac1, -⟩, HB⟩ := HA 0 _ rfl
        obtain ⟨g', av', e9, -, l0, l1, l2, l3, -⟩ := HA 1 _ rfl
        cases e9
        obtain ⟨g', av2, e9, -, j0, j1, -⟩ := HA 2 _ rfl
        cases e9
        obtain ⟨g2, rfl, hg2, m0, m1, -⟩ := HB 0 _ rfl
        simp only [Nat.zero_mul, Nat.one_mul, Nat.zero_add] at k0 k1 k2 k3 k4 k5 k6 l0 l3 m0 m1 j0 j1
        have hac' : (3 : Int) ≤ ac := by simp at hac; omega
        have hac1' : (1 : Int) ≤ a2 := by simp at hac1; omega
        clear HA HB T0 ES EV
        go_wp2
        all_goals
          go_ret
          refine ⟨?_, p1.trans (p2.trans (p3.trans p4))⟩
          rfl
end Tk
end Go.Proofs.YtaknfofppknloaaDoor
