/- Layer 2, the document's answer: a text that stands here, a part of the text, blanks, one character, a name, up to a text. -/
import Derived.Test.YtaknfofppknloaaGreatDoorTr1
import Derived.Test.YtaknfofppknloaaGreatDoorTk5
namespace Go.Proofs.YtaknfofppknloaaGreatDoor
open Go Go.RowKit
set_option linter.all false
namespace Tk
variable {w : World} {r : Ro} {cs : Cs} {i e : Nat} {wh : Nat × Nat}
theorem Sc.nat (h : Sc w r cs i e wh) : natAt w ⟨r.p, 3, none⟩ = i := by simp [natAt, h.c3]
theorem on_pk' (p : Nat → Bool) (xs : Cs) (w : World) : -1 ≤ pk xs := by
  cases xs with
  | nil => simp [pk]
  | cons c q => simp only [pk]; omega
set_option maxRecDepth 100000 in
theorem rblank_any (c : Int) (w : World) (h : -1 ≤ c) : Calls Tryz.prog 36 #[.int .i64 c] w fun e w' => e = .returned (.bool (on blank c)) ∧ w = w' := by
  have hb : on blank c = (c == 9 || (c == 10 || c == 32)) := by
    rw [Bool.eq_iff_iff]
    simp only [on, blank, Bool.and_eq_true, Bool.or_eq_true, decide_eq_true_eq, beq_iff_eq]
    omega
  rw [hb]
  rcases d1 : (c == 9) with _ | _ <;> rcases d2 : (c == 10) with _ | _ <;> rcases d3 : (c == 32) with _ | _
  all_goals
    clear h hb
    go_enter Tryz.func36, Tryz.ntmps36
    go_wp2
    go_ret
    exact ⟨rfl, rfl⟩
set_option maxRecDepth 100000 in
set_option maxHeartbeats 20000000 in
theorem rbegins_any (c : Int) (w : World) (h : -1 ≤ c) : Calls Tryz.prog 60 #[.int .i64 c] w fun e w' => e = .returned (.bool (on begins c)) ∧ w = w' := by
  have hb : on begins c = ((decide (65 ≤ c) && decide (c ≤ 90)) || ((decide (97 ≤ c) && decide (c ≤ 122)) || (c == 95 || (c == 58 || decide (128 ≤ c))))) := by
    rw [Bool.eq_iff_iff]
    simp only [on, begins, Bool.and_eq_true, Bool.or_eq_true, decide_eq_true_eq, beq_iff_eq]
    omega
  rw [hb]
  clear hb h
  rcases d1 : decide (97 ≤ c) with _ | _ <;> rcases d2 : decide (c ≤ 122) with _ | _ <;> rcases d3 : decide (65 ≤ c) with _ | _ <;> rcases d4 : decide (c ≤ 90) with _ | _ <;> rcases d5 : (c == 95) with _ | _ <;> rcases d6 : (c == 58) with _ | _ <;> rcases d7 : decide (128 ≤ c) with _ | _
  all_goals
    go_enter Tryz.func60, Tryz.ntmps60
    go_wp2
    go_ret
    exact ⟨rfl, rfl⟩
set_option maxRecDepth 100000 in
set_option maxHeartbeats 20000000 in
theorem rgoes_any (c : Int) (w : World) (h : -1 ≤ c) : Calls Tryz.prog 62 #[.int .i64 c] w fun e w' => e = .returned (.bool (on goesOn c)) ∧ w = w' := by
  have B := fun w => rbegins_any c w h
  have hb : on goesOn c = (on begins c || ((decide (48 ≤ c) && decide (c ≤ 57)) || (c == 46 || c == 45))) := by
    rw [Bool.eq_iff_iff]
    simp only [on, goesOn, begins, Bool.and_eq_true, Bool.or_eq_true, decide_eq_true_eq, beq_iff_eq]
    omega
  rw [hb]
  clear hb h
  rcases d0 : on begins c with _ | _ <;> rcases d1 : decide (48 ≤ c) with _ | _ <;> rcases d2 : decide (c ≤ 57) with _ | _ <;> rcases d3 : (c == 45) with _ | _ <;> rcases d4 : (c == 46) with _ | _
  all_goals
    rw [d0] at B
    go_enter Tryz.func62, Tryz.ntmps62
    go_wp2_with fail
    refine (B _).mono ?_
    rintro e w1 ⟨rfl, rfl⟩
    go_wp2
    go_ret
    exact ⟨rfl, rfl⟩
set_option maxRecDepth 100000 in
set_option maxHeartbeats 4000000 in
theorem here_any (h : Sc w r cs i e wh) (t : List UInt8) (hi : i ≤ 100000) (ht : t.length ≤ 1000) : Calls Tryz.prog 13 #[.pointer (some ⟨r.p, 0, none⟩), .string ⟨t.toArray⟩] w fun e w' => e = .returned (.bool (pre (nats t) (cs.drop i))) ∧ Pur w w' := by
  have hN : (nats t).length = t.length := by simp [nats]
  have hcl := h.clen
  go_enter Tryz.func13, Tryz.ntmps13
  go_wp2
  go_loopw [5] (fun k wr => ∃ n : Nat, n ≤ t.length ∧ k = .int .i64 n ∧ Pur w wr ∧ Hid (pre (nats t) (cs.drop i) = pre ((nats t).drop n) (cs.drop (i + n)))) (fun k _ => t.length + 1 - (intOf k).toNat)
  case atStart => exact ⟨0, by omega, rfl, Pur.refl w, Lib.hid (by simp)⟩
  case round =>
    obtain ⟨n, hn, rfl, hpr, H⟩ := hrel
    by_cases hlt : n < t.length
    · have hlt' : (n : Int) < t.length := by omega
      have e1 := nats_drop t n hlt
      have w1 : IntKind.i64.wrap ((i : Int) + (n : Int)) = (i : Int) + (n : Int) := IntWalk.i64_in _ (by omega)
      have wn : IntKind.i64.wrap ((n : Int) + 1) = (n : Int) + 1 := IntWalk.i64_in _ (by omega)
      have cb := by8_lt t n
      have hS := h.pur hpr
      have D3 : ∀ x : PW wr, x.to.cell? ⟨r.p, 3, none⟩ = some (.int .i64 (i : Int)) := fun x => (hS.pur x.pur).c3
      have CC : ∀ x : PW wr, Calls Tryz.prog 37 #[.pointer (some ⟨r.p, 0, none⟩), .int .i64 ((i : Int) + (n : Int))] x.to fun e w' => e = .returned (.int .i64 (pk (cs.drop (i + n)))) ∧ x.to = w' := fun x => by
        have := c_any (hS.pur x.pur) (i + n) (by omega)
        rwa [show (((i + n : Nat)) : Int) = (i : Int) + (n : Int) by omega] at this
      rw [e1] at H
      have hpc : pre (by8 t n :: (nats t).drop (n + 1)) (cs.drop (i + n)) = (decide (pk (cs.drop (i + n)) = (by8 t n : Int)) && pre ((nats t).drop (n + 1)) (cs.drop (i + (n + 1)))) := by
        rw [← Nat.add_assoc]
        cases hx : cs.drop (i + n) with
        | nil =>
          rw [pre_short]
          have : decide (pk [] = (by8 t n : Int)) = false := by simp [pk]
          rw [this]; rfl
        | cons x q =>
          have hq : cs.drop (i + n + 1) = q := by rw [← List.drop_drop, hx]; rfl
          rw [pre_cons, hq]
          congr 1
          rw [decide_eq_decide]
          simp only [pk]
          omega
      rw [hpc] at H
      generalize hpk : pk (cs.drop (i + n)) = x at *
      generalize hby : by8 t n = y at *
      obtain ⟨bo, hbo⟩ : ∃ bo : Bool, decide (x = (y : Int)) = bo := ⟨_, rfl⟩
      have d2 : (x == (y : Int)) = bo := by rw [← hbo, Bool.eq_iff_iff]; simp only [beq_iff_eq, decide_eq_true_eq]
      have d3 : (x != (y : Int)) = !bo := by rw [bne, d2]
      rw [hbo] at H
      clear e1 hpc hbo hpk h hS d2
      rcases bo with _ | _
      all_goals
        simp only [Bool.not_false, Bool.not_true] at d3
        go_wp2
        refine wp_region_pur (by kernel_rfl) (by kernel_rfl) ?_
        repeat (go_big_quiet_step ((go_at_call 37; with_reducible exact quiet_eq (CC _))))
        refine wpQuiet_nil ?_
        intro wq hq
        go_wp2
      · go_ret
        refine ⟨?_, hpr.trans hq⟩
        rw [H.out]
        rfl
      · go_roundw
        case rel => exact ⟨n + 1, by omega, by go_num, hpr.trans hq, Lib.hid (by rw [H.out]; simp)⟩
        case measure => simp [intOf]; omega
    · obtain rfl : n = t.length := by omega
      rw [List.drop_of_length_le (show (nats t).length ≤ t.length by omega), pre_nil] at H
      clear h
      go_wp2
      go_ret
      refine ⟨?_, hpr⟩
      rw [H.out]
      rfl
set_option maxRecDepth 100000 in
set_option maxHeartbeats 4000000 in
theorem part_any (h : Sc w r cs i e wh) (a b : Nat) (hab : a ≤ b) (hb : b ≤ cs.length) : Calls Tryz.prog 41 #[.pointer (some ⟨r.p, 0, none⟩), .int .i64 (a : Int), .int .i64 (b : Int)] w fun e w' => e = .returned (.string ⟨(narrow ((cs.drop a).take (b - a))).toArray⟩) ∧ w = w' := by
  have hcl := h.clen
  have c0 := h.c0
  obtain ⟨ta, tc, htv, htc, hcell⟩ := h.tshape
  rw [htv] at c0
  clear htv
  go_enter Tryz.func41, Tryz.ntmps41
  go_wp2
  go_loopw [7, 8] (fun s k wr => ∃ n : Nat, a ≤ n ∧ n ≤ b ∧ s = .string ⟨(narrow ((cs.drop a).take (n - a))).toArray⟩ ∧ k = .int .i64 n ∧ wr = w) (fun _ k _ => b + 1 - (intOf k).toNat)
  case atStart => exact ⟨a, by omega, by omega, by simp [narrow], rfl, rfl⟩
  case round =>
    obtain ⟨n, hn1, hn2, rfl, rfl, rfl⟩ := hrel
    by_cases hlt : n < b
    · have hlt' : (n : Int) < b := by omega
      have hlt2 : (n : Int) < cs.length := by omega
      have wn : IntKind.i64.wrap ((n : Int) + 1) = (n : Int) + 1 := IntWalk.i64_in _ (by omega)
      obtain ⟨g, rfl, hk⟩ := hcell n (by omega)
      have hstep : narrow ((cs.drop a).take (n + 1 - a)) = narrow ((cs.drop a).take (n - a)) ++ enc (cs.getD n 0) := by
        rw [show n + 1 - a = (n - a) + 1 by omega, List.take_succ_eq_append_getElem (by rw [List.length_drop]; omega)]
        unfold narrow
        rw [List.flatMap_append]
        congr 1
        simp only [List.flatMap_cons, List.flatMap_nil, List.append_nil, List.getElem_drop]
        rw [List.getD_eq_getElem?_getD, List.getElem?_eq_getElem (show n < cs.length by omega)]
        simp only [show a + (n - a) = n by omega, Option.getD_some]
      have hl4 : (narrow ((cs.drop a).take (n - a))).length ≤ 4 * 65536 := by
        have h1 : ∀ l : Cs, (narrow l).length ≤ 4 * l.length := fun l => by
          induction l with
          | nil => simp [narrow]
          | cons c l ih =>
            have : narrow (c :: l) = enc c ++ narrow l := rfl
            rw [this, List.length_append, List.length_cons]
            have := enc_length_le c
            omega
        have h2 := h1 ((cs.drop a).take (n - a))
        rw [List.length_take, List.length_drop] at h2
        omega
      have he4 := enc_length_le (cs.getD n 0)
      have hstep := Lib.hid hstep
      generalize narrow ((cs.drop a).take (n - a)) = x at *
      generalize hec : enc (cs.getD n 0) = y at *
      have z1 : ¬ 9223372036854775807 < x.length + y.length := by omega
      clear hcell h hec
      go_wp2
      go_roundw
      case rel => exact ⟨n + 1, by omega, by omega, by rw [hstep.out], by go_num, trivial⟩
      case measure => simp [intOf]; omega
    · obtain rfl : n = b := by omega
      have hlt' : ¬ (n : Int) < n := by omega
      clear hcell h
      go_wp2
      go_ret
      exact ⟨rfl, rfl⟩
set_option maxRecDepth 100000 in
set_option maxHeartbeats 4000000 in
/-- over blanks; also where a fault has been told -/
theorem rblanks_any (h : Sc w r cs i e wh) (hi : i ≤ 100000) : Calls Tryz.prog 42 #[.pointer (some ⟨r.p, 0, none⟩)] w fun e' w' => e' = .returned (.bool (decide ((blanks (cs.drop i)).length < (cs.drop i).length))) ∧
    ∃ j, cs.drop j = blanks (cs.drop i) ∧ i ≤ j ∧ (j ≤ cs.length ∨ j = i) ∧ Sc w' r cs j e wh ∧ Chg [r.p] w w' := by
  have hcl := h.clen
  go_enter Tryz.func42, Tryz.ntmps42
  go_wp2
  go_loopw [3] (fun k wr => ∃ j, i ≤ j ∧ (j ≤ cs.length ∨ j = i) ∧ k = .int .i64 ((j : Int) - (i : Int)) ∧ Sc wr r cs j e wh ∧ Chg [r.p] w wr ∧ Hid (blanks (cs.drop i) = blanks (cs.drop j))) (fun _ wr => cs.length + i + 1 - natAt wr ⟨r.p, 3, none⟩)
  case atStart => exact ⟨i, by omega, .inr rfl, by simp, h, Chg.refl _ _, Lib.hid rfl⟩
  case round =>
    obtain ⟨j, h1, h2, rfl, h3, h4, H⟩ := hrel
    have c3 := h3.c3
    have CC := c_any h3 j (by omega)
    have BL := fun w => rblank_any (pk (cs.drop j)) w (on_pk' blank _ w)
    rw [on_pk] at BL
    rcases hb : hd blank (cs.drop j) with _ | _
    · rw [hb] at BL
      go_wp2_with fail
      refine CC.mono ?_
      rintro e1 w1 ⟨rfl, rfl⟩
      go_wp2_with fail
      refine (BL _).mono ?_
      rintro e2 w2 ⟨rfl, rfl⟩
      have hbl : blanks (cs.drop j) = cs.drop j := by
        unfold blanks
        cases hx : cs.drop j with
        | nil => rfl
        | cons x q => rw [hx] at hb; simp only [hd] at hb; simp [List.dropWhile, hb]
      have d1 : decide ((0 : Int) < (j : Int) - (i : Int)) = decide ((blanks (cs.drop i)).length < (cs.drop i).length) := by
        rw [H.out, hbl, List.length_drop, List.length_drop, Bool.eq_iff_iff]
        simp only [decide_eq_true_eq]
        omega
      have hfin : cs.drop j = blanks (cs.drop i) := by rw [H.out, hbl]
      have d1 := Lib.hid d1
      clear H hbl CC BL hb
      go_wp2
      all_goals
        go_ret
        refine ⟨?_, j, hfin, h1, h2, h3, h4⟩
        rw [← d1.out]
        first | rfl | simp
    · rw [hb] at BL
      have hj : j < cs.length := by
        rcases Nat.lt_or_ge j cs.length with g | g
        · exact g
        · rw [List.drop_of_length_le g] at hb; cases hb
      have w1 : IntKind.i64.wrap ((j : Int) + 1) = (j : Int) + 1 := IntWalk.i64_in _ (by omega)
      have w2 : IntKind.i64.wrap ((j : Int) - (i : Int) + 1) = (j : Int) - (i : Int) + 1 := IntWalk.i64_in _ (by omega)
      have f3 := h3.f 3
      have k4 := h3.seti (j + 1) ((j : Int) + 1) (by omega)
      have e4 := k4.nat
      have e3 := h3.nat
      have H' := Lib.hid (show blanks (cs.drop i) = blanks (cs.drop (j + 1)) by
        rw [H.out, drop_cons cs j hj]
        rw [drop_cons cs j hj] at hb
        simp only [hd] at hb
        unfold blanks
        rw [List.dropWhile_cons, hb]
        rfl)
      have hc4 := h4.trans (Chg.seti r wr 3 (.int .i64 ((j : Int) + 1)))
      clear H
      go_wp2_with fail
      refine CC.mono ?_
      rintro e1 w1 ⟨rfl, rfl⟩
      go_wp2_with fail
      refine (BL _).mono ?_
      rintro e2 w2 ⟨rfl, rfl⟩
      go_wp2
      go_roundw
      case rel => exact ⟨j + 1, by omega, by omega, by go_num, k4, hc4, H'⟩
      case measure => rw [e4, e3]; omega
/-- how a part of the scan ends -/
def Ends {α : Type} (w : World) (r : Ro) (cs : Cs) (i : Nat) (wh : Nat × Nat) (q : R α) (v : α → Value) (V : Value → Prop) (b : Nat) (e : Ending) (w' : World) : Prop := match q with
  | .ok (a, z) => e = .returned (v a) ∧ ∃ j, cs.drop j = z ∧ i ≤ j ∧ j ≤ cs.length ∧ Sc w' r cs j 0 wh ∧ Chg [r.p] w w'
  | .error (k, n) => (∃ u, e = .returned u ∧ V u) ∧ ∃ j, i ≤ j ∧ j ≤ cs.length + b ∧ n ≠ 0 ∧ Sc w' r cs j n (place cs (cs.length - k)) ∧ Chg [r.p] w w'
def Str (u : Value) : Prop := ∃ l : List UInt8, u = .string ⟨l.toArray⟩ ∧ l.length ≤ 1000000
set_option maxRecDepth 100000 in
set_option maxHeartbeats 4000000 in
theorem rone_any (h : Sc w r cs i 0 wh) (hi : i ≤ cs.length) (c : Nat) : Calls Tryz.prog 43 #[.pointer (some ⟨r.p, 0, none⟩), .int .i64 (c : Int)] w fun e w' => Ends w r cs i wh (takeC c (cs.drop i)) (fun _ => .tuple #[]) (fun u => u = .tuple #[]) 0 e w' := by
  have hcl := h.clen
  have c3 := h.c3
  have CC := c_any h i (by omega)
  by_cases hc : pk (cs.drop i) = (c : Int)
  · obtain ⟨q, hq⟩ : ∃ q, cs.drop i = c :: q := by
      cases hx : cs.drop i with
      | nil => rw [hx] at hc; simp [pk] at hc
      | cons x q => rw [hx] at hc; simp only [pk] at hc; exact ⟨q, by rw [show x = c by omega]⟩
    have hil : i < cs.length := by
      rcases Nat.lt_or_ge i cs.length with g | g
      · exact g
      · rw [List.drop_of_length_le g] at hq; cases hq
    have hs : takeC c (cs.drop i) = .ok ((), q) := by rw [hq]; simp [takeC]
    have hq1 : cs.drop (i + 1) = q := by rw [← List.drop_drop, hq]; rfl
    rw [hs]
    have d : (pk (cs.drop i) != (c : Int)) = false := by simp [hc]
    have w1 : IntKind.i64.wrap ((i : Int) + 1) = (i : Int) + 1 := IntWalk.i64_in _ (by omega)
    have f3 := h.f 3
    have k4 := h.seti (i + 1) ((i : Int) + 1) (by omega)
    have hc4 := Chg.seti r w 3 (.int .i64 ((i : Int) + 1))
    generalize pk (cs.drop i) = x at *
    clear hc hs hq
    go_enter Tryz.func43, Tryz.ntmps43
    go_wp2_with fail
    refine CC.mono ?_
    rintro e1 w1 ⟨rfl, rfl⟩
    go_wp2
    refine bodyPost_end (results_none rfl _ _ _) rfl ?_
    exact ⟨rfl, i + 1, hq1, by omega, by omega, k4, hc4⟩
  · have hs : takeC c (cs.drop i) = .error ((cs.drop i).length, 21) := by
      cases hx : cs.drop i with
      | nil => rfl
      | cons x q =>
        rw [hx] at hc; simp only [pk] at hc
        simp only [takeC]
        rw [if_neg (by omega)]
    rw [hs, List.length_drop]
    have d : (pk (cs.drop i) != (c : Int)) = true := by simp [hc]
    have BO := fun w' (h' : Sc w' r cs i 0 wh) => bad_ok h' i 21 (by omega)
    generalize pk (cs.drop i) = x at *
    clear hc hs
    go_enter Tryz.func43, Tryz.ntmps43
    go_wp2_with fail
    refine CC.mono ?_
    rintro e1 w1 ⟨rfl, rfl⟩
    go_wp2_with fail
    refine (BO _ h).mono ?_
    rintro e2 w2 ⟨rfl, h2, hc2⟩
    go_wp2
    refine bodyPost_ret (results_none rfl _ _ _) rfl ?_
    refine ⟨⟨_, rfl, rfl⟩, i, by omega, by omega, by omega, ?_, hc2⟩
    rw [show cs.length - (cs.length - i) = i by omega]
    exact h2
set_option maxRecDepth 100000 in
set_option maxHeartbeats 4000000 in
/-- the same, where a fault has been told -/
theorem rone_err (h : Sc w r cs i e wh) (he : e ≠ 0) (hi : i ≤ 100000) (c : Nat) : Calls Tryz.prog 43 #[.pointer (some ⟨r.p, 0, none⟩), .int .i64 (c : Int)] w fun e' w' => e' = .returned (.tuple #[]) ∧ ∃ j, i ≤ j ∧ (j ≤ cs.length ∨ j = i) ∧ Sc w' r cs j e wh ∧ Chg [r.p] w w' := by
  have hcl := h.clen
  have c3 := h.c3
  have CC := c_any h i (by omega)
  by_cases hc : pk (cs.drop i) = (c : Int)
  · have hil : i < cs.length := by
      rcases Nat.lt_or_ge i cs.length with g | g
      · exact g
      · rw [List.drop_of_length_le g] at hc; simp [pk] at hc
    have d : (pk (cs.drop i) != (c : Int)) = false := by simp [hc]
    have w1 : IntKind.i64.wrap ((i : Int) + 1) = (i : Int) + 1 := IntWalk.i64_in _ (by omega)
    have f3 := h.f 3
    have k4 := h.seti (i + 1) ((i : Int) + 1) (by omega)
    have hc4 := Chg.seti r w 3 (.int .i64 ((i : Int) + 1))
    generalize pk (cs.drop i) = x at *
    clear hc
    go_enter Tryz.func43, Tryz.ntmps43
    go_wp2_with fail
    refine CC.mono ?_
    rintro e1 w1 ⟨rfl, rfl⟩
    go_wp2
    refine bodyPost_end (results_none rfl _ _ _) rfl ?_
    exact ⟨rfl, i + 1, by omega, .inl (by omega), k4, hc4⟩
  · have d : (pk (cs.drop i) != (c : Int)) = true := by simp [hc]
    have BO := bad_err h he i 21
    generalize pk (cs.drop i) = x at *
    clear hc
    go_enter Tryz.func43, Tryz.ntmps43
    go_wp2_with fail
    refine CC.mono ?_
    rintro e1 w1 ⟨rfl, rfl⟩
    go_wp2_with fail
    refine BO.mono ?_
    rintro e2 w2 ⟨rfl, rfl⟩
    go_wp2
    refine bodyPost_ret (results_none rfl _ _ _) rfl ?_
    exact ⟨rfl, i, by omega, .inr rfl, h, Chg.refl _ _⟩
end Tk
end Go.Proofs.YtaknfofppknloaaGreatDoor
