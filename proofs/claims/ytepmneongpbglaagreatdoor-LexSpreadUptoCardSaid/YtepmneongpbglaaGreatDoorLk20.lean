/- Layer 5: nothing but blanks and remarks is left out. -/
import Derived.Test.YtepmneongpbglaaGreatDoorLk19
namespace Go.Proofs.YtepmneongpbglaaGreatDoor
open Go Go.RowKit
set_option linter.all false
namespace Lx
/-- a lexeme as a value -/
def lv (x : Lx) (y : Nat) : Value := .agg #[.int .i64 (x.kind : Int), .string ⟨x.text.toArray⟩, .float .f64 y, .int .i64 (x.at_ : Int), .bool x.line]
set_option maxRecDepth 100000 in
set_option maxHeartbeats 4000000 in
theorem named_any (x : Lx) (y : Nat) (w : World) : Calls Tryz.prog 15 #[lv x y] w fun e w' => e = .returned (.int .i64 (named x : Int)) ∧ Pur w w' := by
  have HN := Lib.hid (show named x = if x.kind = 3 ∨ x.kind = 4 then 0 else x.text.length from rfl)
  obtain ⟨k, t, n, a, ln⟩ := x
  unfold lv
  simp only at HN ⊢
  rcases b3 : ((k : Int) == 3) with _ | _ <;> rcases b4 : ((k : Int) == 4) with _ | _
  all_goals
    have hv : Hid (named ⟨k, t, n, a, ln⟩ = if k = 3 ∨ k = 4 then 0 else t.length) := HN
    first
      | (have e : named ⟨k, t, n, a, ln⟩ = t.length := by
           rw [hv.out, if_neg]
           rw [beq_eq_false_iff_ne] at b3 b4
           omega
         have He := Lib.hid e
         clear e hv HN
         go_enter Tryz.func15, Tryz.ntmps15
         go_wp2
         go_ret
         rw [He.out]
         exact ⟨rfl, (Pur.refl w).alloc _⟩)
      | (have e : named ⟨k, t, n, a, ln⟩ = 0 := by
           rw [hv.out, if_pos]
           first
             | (rw [beq_iff_eq] at b3; omega)
             | (rw [beq_iff_eq] at b4; omega)
         have He := Lib.hid e
         clear e hv HN
         go_enter Tryz.func15, Tryz.ntmps15
         go_wp2
         go_ret
         rw [He.out]
         exact ⟨rfl, (Pur.refl w).alloc _⟩)
theorem cov_get {l : List UInt8} : ∀ {xs : List Lx} {lo : Nat}, Cov l lo xs → ∀ (j : Nat) (x : Lx), xs[j]? = some x → lo ≤ x.at_ ∧ x.at_ < l.length ∧ (0 < named x → x.at_ + named x ≤ l.length ∧ sub l x.at_ (x.at_ + named x) = x.text) ∧ ∀ y, xs[j + 1]? = some y → x.at_ + max 1 (named x) ≤ y.at_
  | [], lo, _, j, x, hx => by simp at hx
  | z :: r, lo, h, 0, x, hx => by
    simp only [List.getElem?_cons_zero, Option.some.injEq] at hx
    subst hx
    refine ⟨h.1, h.2.1, h.2.2.1, fun y hy => ?_⟩
    rw [List.getElem?_cons_succ] at hy
    exact (cov_get h.2.2.2 0 y hy).1
  | z :: r, lo, h, j + 1, x, hx => by
    rw [List.getElem?_cons_succ] at hx
    obtain ⟨a1, a2, a3, a4⟩ := cov_get h.2.2.2 j x hx
    refine ⟨?_, a2, a3, fun y hy => ?_⟩
    · have := h.1; omega
    · rw [List.getElem?_cons_succ] at hy; exact a4 y hy
set_option maxRecDepth 100000 in
set_option maxHeartbeats 32000000 in
theorem covers_law {Hi Lo T : Nat → Nat} (s : List UInt8) (w : World) (hW : LA Hi Lo T w) (hs : s.length ≤ 1000000000) : Calls Tryz.prog 5 #[.string ⟨s.toArray⟩] w fun e w' => e = .returned (.bool true) ∧ Pur w w' := by
  have AW := awake_any w hW.lw hW.f
  by_cases hbig : 1000 < s.length
  · have t2 : decide ((1000 : Int) < (s.length : Int)) = true := by rw [decide_eq_true_eq]; omega
    clear hbig hW
    go_enter Tryz.func5, Tryz.ntmps5
    go_wp2_with fail
    refine AW.mono ?_
    rintro e w1 ⟨rfl, p1⟩
    go_wp2
    go_ret
    exact ⟨rfl, p1⟩
  · have t2 : decide ((1000 : Int) < (s.length : Int)) = false := by rw [decide_eq_false_iff_not]; omega
    have LA1 := fun (w' : World) (h : Pur w w') => lex_all s (hW.pur h) (by omega)
    have hne := Nm.lex_ne (l := s) (by omega)
    have hcv0 : ∀ xs, lex Nm.CN s = some (.ok xs) → Cov s 0 xs := fun xs h => lexGo_cov _ _ _ _ _ h (Nat.zero_le _)
    have hsl : s.length ≤ 1000 := by omega
    clear hbig hW hs
    rcases hlx : lex Nm.CN s with _ | r
    · exact absurd hlx hne
    rw [hlx] at LA1 hcv0
    clear hne hlx
    rcases r with k | xs
    · unfold LexPost at LA1
      simp only at LA1
      clear hcv0
      go_enter Tryz.func5, Tryz.ntmps5
      go_wp2_with fail
      refine AW.mono ?_
      rintro e w1 ⟨rfl, p1⟩
      go_wp2_with fail
      refine (LA1 w1 p1).mono ?_
      rintro e w2 ⟨p2, rfl⟩
      go_wp2
      go_ret
      exact ⟨rfl, p1.trans p2⟩
    · have hcov := hcv0 xs rfl
      have hcl := cov_len hcov
      have hcg := cov_get hcov
      unfold LexPost at LA1
      simp only at LA1
      clear hcv0
      go_enter Tryz.func5, Tryz.ntmps5
      go_wp2_with fail
      refine AW.mono ?_
      rintro e w1 ⟨rfl, p1⟩
      go_wp2_with fail
      refine (LA1 w1 p1).mono ?_
      rintro e w2 ⟨p2, v, zs, hz, -, rfl, hown⟩
      obtain ⟨a, c, rfl, hrow⟩ := lexRow hown
      obtain ⟨n, hn⟩ : ∃ n, zs.length = n := ⟨_, rfl⟩
      rw [hn]
      have hnl : n ≤ 1000 := by
        have := congrArg List.length hz
        rw [List.length_map] at this
        omega
      have hzx : ∀ (i : Nat) (z : Lx × Nat), zs[i]? = some z → xs[i]? = some z.1 := fun i z h => by rw [← hz, List.getElem?_map, h]; rfl
      have HR : ∀ i : Nat, i < n → ∃ z : Lx × Nat, zs[i]? = some z := fun i hi => ⟨_, List.getElem?_eq_getElem (by omega)⟩
      have PP := p1.trans p2
      clear AW LA1 hown hz hcov p1 p2 hn
      go_wp2
      go_loopw [6, 32] (fun L i wr => ∃ (j : Nat) (l0 : Int), L = .int .i64 l0 ∧ i = .int .i64 (j : Int) ∧ j ≤ n ∧ Pur w2 wr ∧ (j = 0 → l0 = -1) ∧ ∀ (i : Nat) (z : Lx × Nat), j = i + 1 → zs[i]? = some z → l0 = (z.1.at_ : Int)) (fun _ i _ => n + 1 - (intOf i).toNat)
      case atStart => exact ⟨0, -1, rfl, rfl, Nat.zero_le _, Pur.refl _, fun _ => rfl, fun i z h => by omega⟩
      case round =>
        obtain ⟨j, l0, rfl, rfl, hj, hp, hl0, hl1⟩ := hrel
        by_cases hlt : j < n
        · obtain ⟨z, hzj⟩ := HR j hlt
          obtain ⟨g, rfl, -, -, r0, r1, r2, r3, r4⟩ := hrow j z hzj
          obtain ⟨x, y⟩ := z
          obtain ⟨g1, g2, g3, g4⟩ := hcg j x (hzx j _ hzj)
          obtain ⟨kd, tx, nu, at0, ln⟩ := x
          simp only at r0 r1 r2 r3 r4 g1 g2 g3 g4
          have hlt' : (j : Int) < (n : Int) := by omega
          have j0 : (0 : Int) ≤ (j : Int) := by omega
          have wj : IntKind.i64.wrap ((j : Int) + 1) = (j : Int) + 1 := IntWalk.i64_in _ (by omega)
          have r0 := Us.cellp r0 hp
          have r1 := Us.cellp r1 hp
          have r2 := Us.cellp r2 hp
          have r3 := Us.cellp r3 hp
          have r4 := Us.cellp r4 hp
          obtain ⟨W1, hW1⟩ : ∃ W1, W1 = wr.alloc (.cells #[.int .i64 (kd : Int), .string ⟨tx.toArray⟩, .float .f64 y, .int .i64 (at0 : Int), .bool ln] 31 (0, 0)) := ⟨_, rfl⟩
          have P1 : Pur wr W1 := by rw [hW1]; exact (Pur.refl wr).alloc _
          have B0 : W1.heap[wr.heap.size]? = some (.cells #[.int .i64 (kd : Int), .string ⟨tx.toArray⟩, .float .f64 y, .int .i64 (at0 : Int), .bool ln] 31 (0, 0)) := by rw [hW1]; exact bk_new _ _
          have c0' := fun v : PW W1 => bk_cell (bk_pur B0 v.pur) 0 _ rfl
          have c1' := fun v : PW W1 => bk_cell (bk_pur B0 v.pur) 1 _ rfl
          have c2' := fun v : PW W1 => bk_cell (bk_pur B0 v.pur) 2 _ rfl
          have c3' := fun v : PW W1 => bk_cell (bk_pur B0 v.pur) 3 _ rfl
          have c4' := fun v : PW W1 => bk_cell (bk_pur B0 v.pur) 4 _ rfl
          have REL : ∀ (i : Nat) (z : Lx × Nat), j + 1 = i + 1 → zs[i]? = some z → (at0 : Int) = (z.1.at_ : Int) := fun i z h hz2 => by
            obtain rfl : j = i := by omega
            rw [hzj] at hz2
            cases hz2
            rfl
          have d2 : ¬ s.length ≤ at0 := by omega
          have d2' : decide ((s.length : Int) ≤ (at0 : Int)) = false := by rw [decide_eq_false_iff_not]; omega
          rcases j with _ | i
          · have hl := hl0 rfl
            subst hl
            have d1 : decide ((at0 : Int) ≤ -1) = false := by rw [decide_eq_false_iff_not]; omega
            clear hl0 hl1 hzj
            go_wp2
            rw [← hW1]
            refine wp_region_pur (by kernel_rfl) (by kernel_rfl) ?_
            repeat (go_big_quiet_step (fail))
            refine wpQuiet_nil ?_
            intro wq hq
            have bz := bk_pur B0 hq
            have cz3 := bk_cell bz 3 _ rfl
            have cz1 := bk_cell bz 1 _ rfl
            have cz0 := bk_cell bz 0 _ rfl
            have cz2 := bk_cell bz 2 _ rfl
            have cz4 := bk_cell bz 4 _ rfl
            have NB := named_any ⟨kd, tx, nu, at0, ln⟩ y wq
            unfold lv at NB
            simp only at NB
            clear B0 bz c0' c1' c2' c3' c4'
            go_wp2_with fail
            refine NB.mono ?_
            rintro e wn ⟨rfl, hn2⟩
            have hqn := hq.trans hn2
            obtain ⟨nm, hnm⟩ : ∃ nm, named ⟨kd, tx, nu, at0, ln⟩ = nm := ⟨_, rfl⟩
            rw [hnm] at g3 ⊢
            clear hnm NB
            have cz3' := fun v : PW wn => Us.cellp cz3 (hn2.trans v.pur)
            have cz1' := fun v : PW wn => Us.cellp cz1 (hn2.trans v.pur)
            by_cases n0 : nm = 0
            · subst n0
              clear g3 HR hcg hrow hzx
              go_wp2
              refine wp_region_pur (by kernel_rfl) (by kernel_rfl) ?_
              repeat (go_big_quiet_step (fail))
              refine wpQuiet_nil ?_
              intro wm hm
              have cm3 := Us.cellp cz3 (hn2.trans hm)
              go_wp2
              go_roundw
              case rel => exact ⟨0 + 1, _, rfl, by go_num, by omega, hp.trans (P1.trans (hqn.trans hm)), by omega, REL⟩
              case measure => simp [intOf] <;> omega
            · obtain ⟨h1, h2⟩ := g3 (by omega)
              have np : 0 < nm := by omega
              have wa : IntKind.i64.wrap ((at0 : Int) + (nm : Int)) = ((at0 + nm : Nat) : Int) := by rw [show (at0 : Int) + (nm : Int) = ((at0 + nm : Nat) : Int) by omega]; exact IntWalk.i64_in _ (by omega)
              obtain ⟨en, hen⟩ : ∃ en, at0 + nm = en := ⟨_, rfl⟩
              rw [hen] at wa h1 h2
              have e1 : ¬ s.length < en := by omega
              have e1' : ¬ (s.length : Int) < (en : Int) := by omega
              have e2 : (at0 : Int) ≤ (en : Int) := by omega
              have e3 : (en : Int) ≤ (s.length : Int) := by omega
              have e4 : (0 : Int) ≤ (at0 : Int) := by omega
              clear g3 HR hcg hrow hzx hen
              go_wp2
              refine wp_region_pur (by kernel_rfl) (by kernel_rfl) ?_
              repeat (go_big_quiet_step (fail))
              refine wpQuiet_nil ?_
              intro wm hm
              have cm3 := Us.cellp cz3 (hn2.trans hm)
              go_wp2
              go_roundw
              case rel => exact ⟨0 + 1, _, rfl, by go_num, by omega, hp.trans (P1.trans (hqn.trans hm)), by omega, REL⟩
              case measure => simp [intOf] <;> omega
          · obtain ⟨zp, hzi⟩ := HR i (by omega)
            have hl := hl1 i zp rfl hzi
            obtain ⟨gp, hgp, -, -, t0, t1, t2', t3, t4⟩ := hrow i zp hzi
            cases hgp
            obtain ⟨xp, yp⟩ := zp
            have hnx := (hcg i xp (hzx i _ hzi)).2.2.2 _ (hzx (i + 1) _ hzj)
            have NP := fun v : PW W1 => named_any xp yp v.to
            obtain ⟨np', hnp'⟩ : ∃ np', named xp = np' := ⟨_, rfl⟩
            rw [hnp'] at hnx
            simp only [hnp'] at NP
            have hxp := (hcg i xp (hzx i _ hzi)).2.1
            obtain ⟨kp, tp, nup, ap, lp⟩ := xp
            simp only at hl t0 t1 t2' t3 t4 hnx hxp
            subst hl
            unfold lv at NP
            simp only at NP
            have u0 := fun v : PW W1 => Us.cellp t0 (hp.trans (P1.trans v.pur))
            have u1 := fun v : PW W1 => Us.cellp t1 (hp.trans (P1.trans v.pur))
            have u2 := fun v : PW W1 => Us.cellp t2' (hp.trans (P1.trans v.pur))
            have u3 := fun v : PW W1 => Us.cellp t3 (hp.trans (P1.trans v.pur))
            have u4 := fun v : PW W1 => Us.cellp t4 (hp.trans (P1.trans v.pur))
            have d1 : decide ((at0 : Int) ≤ (ap : Int)) = false := by rw [decide_eq_false_iff_not]; omega
            have d1' : ¬ at0 ≤ ap := by omega
            have wi : IntKind.i64.wrap (((i + 1 : Nat) : Int) - 1) = (i : Int) := by rw [show ((i + 1 : Nat) : Int) - 1 = (i : Int) by omega]; exact IntWalk.i64_in _ (by omega)
            have wi2 : IntKind.i64.wrap ((i : Int) + 1 - 1) = (i : Int) := by rw [show (i : Int) + 1 - 1 = (i : Int) by omega]; exact IntWalk.i64_in _ (by omega)
            have wi3 : IntKind.i64.wrap (i : Int) = (i : Int) := IntWalk.i64_in _ (by omega)
            have i0 : (0 : Int) ≤ (i : Int) := by omega
            have iN : (i : Int) < (n : Int) := by omega
            obtain ⟨M, hM⟩ : ∃ M : Nat, max 1 np' = M := ⟨_, rfl⟩
            rw [hM] at hnx
            have wM : max (1 : Int) (np' : Int) = (M : Int) := by omega
            have wS : IntKind.i64.wrap ((ap : Int) + (M : Int)) = ((ap + M : Nat) : Int) := by rw [show (ap : Int) + (M : Int) = ((ap + M : Nat) : Int) by omega]; exact IntWalk.i64_in _ (by omega)
            have d4 : ¬ at0 < ap + M := by omega
            have d4' : decide ((at0 : Int) < (ap : Int) + (M : Int)) = false := by rw [decide_eq_false_iff_not]; omega
            have d5 : decide ((0 : Int) < ((i + 1 : Nat) : Int)) = true := by rw [decide_eq_true_eq]; omega
            clear hl0 hl1 hzj hzi t0 t1 t2' t3 t4 hM hnp' hnx
            go_wp2
            rw [← hW1]
            refine wp_region_pur (by kernel_rfl) (by kernel_rfl) ?_
            repeat (go_big_quiet_step (((go_at_call 15; with_reducible exact quiet_pur (NP _)))))
            refine wpQuiet_nil ?_
            intro wq hq
            have bz := bk_pur B0 hq
            have cz3 := bk_cell bz 3 _ rfl
            have cz1 := bk_cell bz 1 _ rfl
            have cz0 := bk_cell bz 0 _ rfl
            have cz2 := bk_cell bz 2 _ rfl
            have cz4 := bk_cell bz 4 _ rfl
            have NB := named_any ⟨kd, tx, nu, at0, ln⟩ y wq
            unfold lv at NB
            simp only at NB
            clear B0 bz c0' c1' c2' c3' c4'
            go_wp2_with fail
            refine NB.mono ?_
            rintro e wn ⟨rfl, hn2⟩
            have hqn := hq.trans hn2
            obtain ⟨nm, hnm⟩ : ∃ nm, named ⟨kd, tx, nu, at0, ln⟩ = nm := ⟨_, rfl⟩
            rw [hnm] at g3 ⊢
            clear hnm NB
            have cz3' := fun v : PW wn => Us.cellp cz3 (hn2.trans v.pur)
            have cz1' := fun v : PW wn => Us.cellp cz1 (hn2.trans v.pur)
            by_cases n0 : nm = 0
            · subst n0
              clear g3 HR hcg hrow hzx
              go_wp2
              refine wp_region_pur (by kernel_rfl) (by kernel_rfl) ?_
              repeat (go_big_quiet_step (fail))
              refine wpQuiet_nil ?_
              intro wm hm
              have cm3 := Us.cellp cz3 (hn2.trans hm)
              go_wp2
              go_roundw
              case rel => exact ⟨i + 1 + 1, _, rfl, by go_num, by omega, hp.trans (P1.trans (hqn.trans hm)), by omega, REL⟩
              case measure => simp [intOf] <;> omega
            · obtain ⟨h1, h2⟩ := g3 (by omega)
              have np : 0 < nm := by omega
              have wa : IntKind.i64.wrap ((at0 : Int) + (nm : Int)) = ((at0 + nm : Nat) : Int) := by rw [show (at0 : Int) + (nm : Int) = ((at0 + nm : Nat) : Int) by omega]; exact IntWalk.i64_in _ (by omega)
              obtain ⟨en, hen⟩ : ∃ en, at0 + nm = en := ⟨_, rfl⟩
              rw [hen] at wa h1 h2
              have e1 : ¬ s.length < en := by omega
              have e1' : ¬ (s.length : Int) < (en : Int) := by omega
              have e2 : (at0 : Int) ≤ (en : Int) := by omega
              have e3 : (en : Int) ≤ (s.length : Int) := by omega
              have e4 : (0 : Int) ≤ (at0 : Int) := by omega
              clear g3 HR hcg hrow hzx hen
              go_wp2
              refine wp_region_pur (by kernel_rfl) (by kernel_rfl) ?_
              repeat (go_big_quiet_step (fail))
              refine wpQuiet_nil ?_
              intro wm hm
              have cm3 := Us.cellp cz3 (hn2.trans hm)
              go_wp2
              go_roundw
              case rel => exact ⟨i + 1 + 1, _, rfl, by go_num, by omega, hp.trans (P1.trans (hqn.trans hm)), by omega, REL⟩
              case measure => simp [intOf] <;> omega
        · have hlt' : ¬ (j : Int) < (n : Int) := by omega
          clear HR hcg hrow hzx
          go_wp2
          go_ret
          exact ⟨rfl, PP.trans hp⟩
end Lx
end Go.Proofs.YtepmneongpbglaaGreatDoor
