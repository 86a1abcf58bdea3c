/- Layer 2, the document's answer: a comment, an instruction. -/
import Derived.Test.YtaknfofppknloaaGreatDoorTr10
namespace Go.Proofs.YtaknfofppknloaaGreatDoor
open Go Go.RowKit
set_option linter.all false
namespace Tk
variable {w : World} {r : Ro} {cs : Cs} {i e : Nat} {wh : Nat × Nat}
theorem Sc.okc (h : Sc w r cs i e wh) : ∀ c ∈ cs, okc c := fun c hc => allowed_okc (h.okcs c hc)
theorem Sc.okd (h : Sc w r cs i e wh) (k : Nat) : ∀ c ∈ cs.drop k, _root_.Go.Proofs.YtaknfofppknloaaGreatDoor.okc c := fun c hc => h.okc c (List.mem_of_mem_drop hc)
set_option maxRecDepth 100000 in
set_option maxHeartbeats 8000000 in
/-- the same, where a fault has been told -/
theorem rto_err (h : Sc w r cs i e wh) (he : e ≠ 0) (hi : i ≤ cs.length) (t : List UInt8) (ht0 : t ≠ []) (ht : t.length ≤ 1000) : Calls Tryz.prog 15 #[.pointer (some ⟨r.p, 0, none⟩), .string ⟨t.toArray⟩] w fun e' w' => (∃ u, e' = .returned u) ∧ ∃ j, i ≤ j ∧ j ≤ cs.length ∧ Sc w' r cs j e wh ∧ Chg [r.p] w w' := by
  have hcl := h.clen
  have c3 := h.c3
  have hN : (nats t).length = t.length := by simp [nats]
  have ht1 : 0 < t.length := List.length_pos_iff.2 ht0
  obtain ⟨ca, cc, hcv, -, -, -⟩ := h.cshape
  go_enter Tryz.func15, Tryz.ntmps15
  go_wp2
  go_loopw [26] (fun _ wr => ∃ j, i ≤ j ∧ j ≤ cs.length ∧ Sc wr r cs j e wh ∧ Chg [r.p] w wr) (fun _ wr => cs.length + 1 - natAt wr ⟨r.p, 3, none⟩)
  case atStart => exact ⟨i, by omega, by omega, h, Chg.refl _ _⟩
  case round =>
    obtain ⟨j, j1, j2, h3, h4⟩ := hrel
    have C1 : ∀ x : PW wr, x.to.cell? ⟨r.p, 1, none⟩ = some (.slice ca cs.length cc) := fun x => hcv ▸ (h3.pur x.pur).c1
    have C3 : ∀ x : PW wr, x.to.cell? ⟨r.p, 3, none⟩ = some (.int .i64 (j : Int)) := fun x => (h3.pur x.pur).c3
    have HE := fun x : PW wr => here_any (h3.pur x.pur) t (by omega) ht
    by_cases hj : j < cs.length
    · have hj' : (j : Int) < cs.length := by omega
      rcases hp : pre (nats t) (cs.drop j) with _ | _
      · rw [hp] at HE
        clear hp
        go_wp2
        refine wp_region_pur (by kernel_rfl) (by kernel_rfl) ?_
        repeat (go_big_quiet_step (((go_at_call 13; with_reducible exact quiet_pur (HE _)))))
        refine wpQuiet_nil ?_
        intro wq hq
        clear C1 C3 HE
        have k3 := h3.pur hq
        have c3 := k3.c3
        have f3 := k3.f 3
        have w1 : IntKind.i64.wrap ((j : Int) + 1) = (j : Int) + 1 := IntWalk.i64_in _ (by omega)
        have k4 := k3.seti (j + 1) ((j : Int) + 1) (by omega)
        have e4 := k4.nat
        have e3 := h3.nat
        have hc4 := (h4.pur hq).trans (Chg.seti r wq 3 (.int .i64 ((j : Int) + 1)))
        go_wp2
        go_roundw
        case rel => exact ⟨j + 1, by omega, by omega, k4, hc4⟩
        case measure => rw [e4, e3]; omega
      · rw [hp] at HE
        have hpl := pre_len' hp
        rw [hN, List.length_drop] at hpl
        clear hp
        go_wp2
        refine wp_region_pur (by kernel_rfl) (by kernel_rfl) ?_
        repeat (go_big_quiet_step (((go_at_call 13; with_reducible exact quiet_pur (HE _)))))
        refine wpQuiet_nil ?_
        intro wq hq
        have k3 := h3.pur hq
        have D1 : ∀ x : PW wq, x.to.cell? ⟨r.p, 1, none⟩ = some (.slice ca cs.length cc) := fun x => hcv ▸ (k3.pur x.pur).c1
        have D3 : ∀ x : PW wq, x.to.cell? ⟨r.p, 3, none⟩ = some (.int .i64 (j : Int)) := fun x => (k3.pur x.pur).c3
        clear C1 C3 HE
        go_wp2
        refine wp_region_pur (by kernel_rfl) (by kernel_rfl) ?_
        repeat (go_big_quiet_step (fail))
        refine wpQuiet_nil ?_
        intro wq2 hq2
        have k5 := k3.pur hq2
        have c3 := k5.c3
        have f3 := k5.f 3
        have PT := part_any k5 i j j1 j2
        clear D1 D3
        go_wp2_with fail
        refine PT.mono ?_
        rintro e1 w5 ⟨rfl, rfl⟩
        have w1 : IntKind.i64.wrap ((j : Int) + (t.length : Int)) = (j : Int) + (t.length : Int) := IntWalk.i64_in _ (by omega)
        have k6 := k5.seti (j + t.length) ((j : Int) + (t.length : Int)) (by omega)
        have hc6 := ((h4.pur hq).pur hq2).trans (Chg.seti r wq2 3 (.int .i64 ((j : Int) + (t.length : Int))))
        go_wp2
        go_ret
        exact ⟨⟨_, rfl⟩, j + t.length, by omega, by omega, k6, hc6⟩
    · obtain rfl : j = cs.length := by omega
      have hj' : ¬ ((cs.length : Int) < cs.length) := by omega
      clear HE
      go_wp2
      refine wp_region_pur (by kernel_rfl) (by kernel_rfl) ?_
      repeat (go_big_quiet_step (fail))
      refine wpQuiet_nil ?_
      intro wq hq
      have k3 := h3.pur hq
      have D1 : ∀ x : PW wq, x.to.cell? ⟨r.p, 1, none⟩ = some (.slice ca cs.length cc) := fun x => hcv ▸ (k3.pur x.pur).c1
      have D3 : ∀ x : PW wq, x.to.cell? ⟨r.p, 3, none⟩ = some (.int .i64 (cs.length : Int)) := fun x => (k3.pur x.pur).c3
      clear C1 C3
      go_wp2
      refine wp_region_pur (by kernel_rfl) (by kernel_rfl) ?_
      repeat (go_big_quiet_step (fail))
      refine wpQuiet_nil ?_
      intro wq2 hq2
      have k5 := k3.pur hq2
      have c3 := k5.c3
      have BO := bad_err k5 he (cs.length : Int) 21
      clear D1 D3
      go_wp2_with fail
      refine BO.mono ?_
      rintro e1 w5 ⟨rfl, rfl⟩
      go_wp2
      go_ret
      exact ⟨⟨_, rfl⟩, cs.length, j1, by omega, k5, (h4.pur hq).pur hq2⟩
set_option maxRecDepth 100000 in
set_option maxHeartbeats 8000000 in
/-- a comment -/
theorem rcom_any (h : Sc w r cs i 0 wh) (hp : pre [60, 33, 45, 45] (cs.drop i) = true) : Calls Tryz.prog 14 #[.pointer (some ⟨r.p, 0, none⟩)] w fun e w' => Ends w r cs i wh (comment (cs.drop i)) (fun _ => .tuple #[]) (fun u => u = .tuple #[]) 3 e w' := by
  have hcl := h.clen
  have hpl := pre_len' hp
  rw [List.length_drop] at hpl
  simp only [List.length_cons, List.length_nil] at hpl
  have hi : i + 4 ≤ cs.length := by omega
  clear hpl
  have c3 := h.c3
  have HB := here_any h [60, 33, 45, 45] (by omega) (by decide)
  rw [show nats [60, 33, 45, 45] = [60, 33, 45, 45] from rfl, hp] at HB
  have HC : comment (cs.drop i) = (untilT [45, 45] (cs.drop (i + 4))).and fun _ q => match q with
    | [] => .error (0, 21)
    | c :: z => if c = 62 then .ok ((), z) else .error (q.length + 2, 21) := by
    unfold comment; rw [List.drop_drop]; rfl
  have HC := Lib.hid HC
  clear hp
  obtain ⟨ca, cc, hcv, -, -, -⟩ := h.cshape
  go_enter Tryz.func14, Tryz.ntmps14
  go_wp2_with fail
  refine HB.mono ?_
  rintro e1 w1 ⟨rfl, p1⟩
  have h1 := h.pur p1
  have g1 : Chg [r.p] w w1 := .of_pur p1
  clear c3 HB
  have c3 := h1.c3
  have f3 := h1.f 3
  have w4 : IntKind.i64.wrap ((i : Int) + 4) = (i : Int) + 4 := IntWalk.i64_in _ (by omega)
  have h2 := h1.seti (i + 4) ((i : Int) + 4) (by omega)
  have g2 := g1.trans (Chg.seti r w1 3 (.int .i64 ((i : Int) + 4)))
  go_wp2
  go_loopw [33] (fun _ wr => ∃ j, i + 4 ≤ j ∧ j ≤ cs.length ∧ Sc wr r cs j 0 wh ∧ Chg [r.p] w wr ∧ Hid (untilT [45, 45] (cs.drop (i + 4)) = (untilT [45, 45] (cs.drop j)).and fun a q => .ok ((cs.drop (i + 4)).take (j - (i + 4)) ++ a, q))) (fun _ wr => cs.length + 1 - natAt wr ⟨r.p, 3, none⟩)
  case atStart => exact ⟨i + 4, by omega, by omega, h2, g2, Lib.hid (by rcases untilT [45, 45] (cs.drop (i + 4)) with e | ⟨a, q⟩ <;> simp)⟩
  case round =>
    obtain ⟨j, j1, j2, h3, h4, H⟩ := hrel
    have C1 : ∀ x : PW wr, x.to.cell? ⟨r.p, 1, none⟩ = some (.slice ca cs.length cc) := fun x => hcv ▸ (h3.pur x.pur).c1
    have C3 : ∀ x : PW wr, x.to.cell? ⟨r.p, 3, none⟩ = some (.int .i64 (j : Int)) := fun x => (h3.pur x.pur).c3
    have HE := fun x : PW wr => here_any (h3.pur x.pur) [45, 45] (by omega) (by decide)
    rw [show nats [45, 45] = [45, 45] from rfl] at HE
    clear h1 h2 g1 g2 c3 f3
    by_cases hj : j < cs.length
    · have hj' : (j : Int) < cs.length := by omega
      rcases hp : pre [45, 45] (cs.drop j) with _ | _
      · rw [hp] at HE
        have H' := Lib.hid (until_go _ cs (i + 4) j j1 hj hp H.out)
        clear H hp
        go_wp2
        refine wp_region_pur (by kernel_rfl) (by kernel_rfl) ?_
        repeat (go_big_quiet_step (((go_at_call 13; with_reducible exact quiet_pur (HE _)))))
        refine wpQuiet_nil ?_
        intro wq hq
        clear C1 C3 HE
        have k3 := h3.pur hq
        have c3 := k3.c3
        have f3 := k3.f 3
        have w1 : IntKind.i64.wrap ((j : Int) + 1) = (j : Int) + 1 := IntWalk.i64_in _ (by omega)
        have k4 := k3.seti (j + 1) ((j : Int) + 1) (by omega)
        have e4 := k4.nat
        have e3 := h3.nat
        have hc4 := (h4.pur hq).trans (Chg.seti r wq 3 (.int .i64 ((j : Int) + 1)))
        go_wp2
        go_roundw
        case rel => exact ⟨j + 1, by omega, by omega, k4, hc4, H'⟩
        case measure => rw [e4, e3]; omega
      · rw [hp] at HE
        have hpl := pre_len' hp
        rw [List.length_drop] at hpl
        simp only [List.length_cons, List.length_nil] at hpl
        have hu : ∃ a, untilT [45, 45] (cs.drop (i + 4)) = .ok (a, cs.drop (j + 2)) := by
          refine ⟨(cs.drop (i + 4)).take (j - (i + 4)), ?_⟩
          rw [H.out, drop_cons cs j hj]
          rw [drop_cons cs j hj] at hp
          conv => lhs; unfold untilT
          rw [hp, if_pos rfl, and_ok, List.append_nil, ← drop_cons cs j hj, List.drop_drop]
          rfl
        clear H hp
        go_wp2
        refine wp_region_pur (by kernel_rfl) (by kernel_rfl) ?_
        repeat (go_big_quiet_step (((go_at_call 13; with_reducible exact quiet_pur (HE _)))))
        refine wpQuiet_nil ?_
        intro wq hq
        have k5 := h3.pur hq
        have g5 := h4.pur hq
        clear C1 C3 HE
        have c3 := k5.c3
        have CC := c_any k5 (j + 2) (by omega)
        rw [Int.natCast_add] at CC
        have wj2 : IntKind.i64.wrap ((j : Int) + 2) = (j : Int) + 2 := IntWalk.i64_in _ (by omega)
        have hj4 : j + 2 ≤ cs.length := by omega
        clear hpl hj hj'
        obtain ⟨ua, hu⟩ := hu
        by_cases hx : pk (cs.drop (j + 2)) < 0
        · have hz : cs.drop (j + 2) = [] := by
            cases hh : cs.drop (j + 2) with
            | nil => rfl
            | cons x z => rw [hh] at hx; simp only [pk] at hx; omega
          have hres := Lib.hid (show comment (cs.drop i) = .error (0, 21) by rw [HC.out, hu, and_ok, hz])
          have d := Lib.hid hx
          generalize pk (cs.drop (j + 2)) = px at *
          have d1 : decide (px < 0) = true := by simpa using hx
          have c1 := k5.c1
          rw [hcv] at c1
          have BO := bad_ok k5 cs.length 21 (by omega)
          clear hx d
          go_wp2_with fail
          refine CC.mono ?_
          rintro e1 w6 ⟨rfl, rfl⟩
          go_wp2_with fail
          refine BO.mono ?_
          rintro e1 w6 ⟨rfl, h6, c6⟩
          clear c1 c3
          have c3 := h6.c3
          have f3 := h6.f 3
          have wj3 : IntKind.i64.wrap ((j : Int) + 3) = (j : Int) + 3 := IntWalk.i64_in _ (by omega)
          have h7 := h6.seti (j + 3) ((j : Int) + 3) (by omega)
          have c7 := c6.trans (Chg.seti r w6 3 (.int .i64 ((j : Int) + 3)))
          go_wp2
          refine bodyPost_ret (results_none rfl _ _ _) rfl ?_
          rw [hres.out]
          exact ⟨⟨_, rfl, rfl⟩, j + 3, by omega, by omega, by omega, by rw [Nat.sub_zero]; exact h7, g5.trans c7⟩
        by_cases h62 : pk (cs.drop (j + 2)) = 62
        · obtain ⟨z, hz⟩ : ∃ z, cs.drop (j + 2) = 62 :: z := by
            cases hh : cs.drop (j + 2) with
            | nil => rw [hh] at h62; simp [pk] at h62
            | cons x z => rw [hh] at h62; simp only [pk] at h62; exact ⟨z, by rw [show x = 62 by omega]⟩
          have hil : j + 2 < cs.length := by
            rcases Nat.lt_or_ge (j + 2) cs.length with g | g
            · exact g
            · rw [List.drop_of_length_le g] at hz; cases hz
          have hz3 : cs.drop (j + 3) = z := by rw [show j + 3 = j + 2 + 1 from rfl, ← List.drop_drop, hz]; rfl
          have hres := Lib.hid (show comment (cs.drop i) = .ok ((), z) by rw [HC.out, hu, and_ok, hz]; simp)
          rw [h62] at CC
          clear hx h62 hz hu HC
          have f3 := k5.f 3
          have wj3 : IntKind.i64.wrap ((j : Int) + 3) = (j : Int) + 3 := IntWalk.i64_in _ (by omega)
          have h7 := k5.seti (j + 3) ((j : Int) + 3) (by omega)
          have c7 := g5.trans (Chg.seti r wq 3 (.int .i64 ((j : Int) + 3)))
          go_wp2_with fail
          refine CC.mono ?_
          rintro e1 w6 ⟨rfl, rfl⟩
          go_wp2_with fail
          refine CC.mono ?_
          rintro e1 w6 ⟨rfl, rfl⟩
          go_wp2
          refine bodyPost_ret (results_none rfl _ _ _) rfl ?_
          rw [hres.out]
          exact ⟨rfl, j + 3, hz3, by omega, by omega, h7, c7⟩
        · obtain ⟨x, z, hz, hx62⟩ : ∃ x z, cs.drop (j + 2) = x :: z ∧ x ≠ 62 := by
            cases hh : cs.drop (j + 2) with
            | nil => rw [hh] at hx; simp [pk] at hx
            | cons x z => rw [hh] at h62; simp only [pk] at h62; exact ⟨x, z, rfl, by omega⟩
          have hlz : (x :: z).length = cs.length - (j + 2) := by rw [← hz, List.length_drop]
          have hil : j + 2 < cs.length := by
            rcases Nat.lt_or_ge (j + 2) cs.length with g | g
            · exact g
            · rw [List.drop_of_length_le g] at hz; cases hz
          have hres := Lib.hid (show comment (cs.drop i) = .error (cs.length - (j + 2) + 2, 21) by
            rw [HC.out, hu, and_ok, hz]
            simp only [if_neg hx62, hlz])
          have hpk : pk (cs.drop (j + 2)) = (x : Int) := by rw [hz]; rfl
          rw [hpk] at CC
          have d1 : decide ((x : Int) < 0) = false := by simp <;> omega
          have d2 : ((x : Int) != 62) = true := by simp <;> omega
          have BO := bad_ok k5 j 21 (by omega)
          clear hx h62 hz hu HC hlz hpk
          have wj3 : IntKind.i64.wrap ((j : Int) + 3) = (j : Int) + 3 := IntWalk.i64_in _ (by omega)
          go_wp2_with fail
          refine CC.mono ?_
          rintro e1 w6 ⟨rfl, rfl⟩
          go_wp2_with fail
          refine CC.mono ?_
          rintro e1 w6 ⟨rfl, rfl⟩
          go_wp2_with fail
          refine BO.mono ?_
          rintro e1 w6 ⟨rfl, h6, c6⟩
          clear c3
          have c3 := h6.c3
          have f3 := h6.f 3
          have h7 := h6.seti (j + 3) ((j : Int) + 3) (by omega)
          have c7 := c6.trans (Chg.seti r w6 3 (.int .i64 ((j : Int) + 3)))
          go_wp2
          refine bodyPost_ret (results_none rfl _ _ _) rfl ?_
          rw [hres.out]
          exact ⟨⟨_, rfl, rfl⟩, j + 3, by omega, by omega, by omega, by rw [show cs.length - (cs.length - (j + 2) + 2) = j by omega]; exact h7, g5.trans c7⟩
    · obtain rfl : j = cs.length := by omega
      have hj' : ¬ ((cs.length : Int) < cs.length) := by omega
      have hu : untilT [45, 45] (cs.drop (i + 4)) = .error (0, 21) := by
        rw [H.out, List.drop_length]; unfold untilT; rfl
      clear H HE
      go_wp2
      refine wp_region_pur (by kernel_rfl) (by kernel_rfl) ?_
      repeat (go_big_quiet_step (fail))
      refine wpQuiet_nil ?_
      intro wq hq
      have k5 := h3.pur hq
      have g5 := h4.pur hq
      clear C1 C3
      have c3 := k5.c3
      have CC := c_any k5 (cs.length + 2) (by omega)
      rw [Int.natCast_add] at CC
      have wj2 : IntKind.i64.wrap ((cs.length : Int) + 2) = (cs.length : Int) + 2 := IntWalk.i64_in _ (by omega)
      have hx : pk (cs.drop (cs.length + 2)) < 0 := by rw [List.drop_of_length_le (by omega)]; decide
      clear hj
      have hres := Lib.hid (show comment (cs.drop i) = .error (0, 21) by rw [HC.out, hu]; rfl)
      have d := Lib.hid hx
      generalize pk (cs.drop (cs.length + 2)) = px at *
      have d1 : decide (px < 0) = true := by simpa using hx
      have c1 := k5.c1
      rw [hcv] at c1
      have BO := bad_ok k5 cs.length 21 (by omega)
      clear hx d
      go_wp2_with fail
      refine CC.mono ?_
      rintro e1 w6 ⟨rfl, rfl⟩
      go_wp2_with fail
      refine BO.mono ?_
      rintro e1 w6 ⟨rfl, h6, c6⟩
      clear c1 c3
      have c3 := h6.c3
      have f3 := h6.f 3
      have wj3 : IntKind.i64.wrap ((cs.length : Int) + 3) = (cs.length : Int) + 3 := IntWalk.i64_in _ (by omega)
      have h7 := h6.seti (cs.length + 3) ((cs.length : Int) + 3) (by omega)
      have c7 := c6.trans (Chg.seti r w6 3 (.int .i64 ((cs.length : Int) + 3)))
      go_wp2
      refine bodyPost_ret (results_none rfl _ _ _) rfl ?_
      rw [hres.out]
      exact ⟨⟨_, rfl, rfl⟩, cs.length + 3, by omega, by omega, by omega, by rw [Nat.sub_zero]; exact h7, g5.trans c7⟩
set_option maxRecDepth 100000 in
set_option maxHeartbeats 8000000 in
/-- an instruction -/
theorem rins_any (h : Sc w r cs i 0 wh) (hp : pre [60, 63] (cs.drop i) = true) : Calls Tryz.prog 14 #[.pointer (some ⟨r.p, 0, none⟩)] w fun e w' => Ends w r cs i wh (instr (cs.drop i)) (fun _ => .tuple #[]) (fun u => u = .tuple #[]) 3 e w' := by
  have hcl := h.clen
  have hpl := pre_len' hp
  rw [List.length_drop] at hpl
  simp only [List.length_cons, List.length_nil] at hpl
  have hi : i + 2 ≤ cs.length := by omega
  clear hpl
  have c3 := h.c3
  have HB := here_any h [60, 33, 45, 45] (by omega) (by decide)
  have hp2 : pre [60, 33, 45, 45] (cs.drop i) = false := by
    unfold pre at hp ⊢
    simp only [List.length_cons, List.length_nil, decide_eq_true_eq, decide_eq_false_iff_not] at hp ⊢
    intro hq
    have := congrArg (List.take 2) hq
    rw [List.take_take] at this
    rw [show min 2 (0 + 1 + 1 + 1 + 1) = 0 + 1 + 1 from rfl, hp] at this
    simp at this
  rw [show nats [60, 33, 45, 45] = [60, 33, 45, 45] from rfl, hp2] at HB
  have HC : instr (cs.drop i) = (name (cs.drop (i + 2))).and fun nm r =>
    if nm.map small = [120, 109, 108] then .error (cs.length - i, 21)
    else if pre [63, 62] r then .ok ((), r.drop 2)
    else if hd blank r then (untilT [63, 62] r).and fun _ z => .ok ((), z)
    else .error (r.length, 21) := by
    unfold instr; rw [List.drop_drop, List.length_drop]
  have HC := Lib.hid HC
  have hok := h.okd (i + 2)
  clear hp hp2
  go_enter Tryz.func14, Tryz.ntmps14
  go_wp2_with fail
  refine HB.mono ?_
  rintro e1 w1 ⟨rfl, p1⟩
  have h1 := h.pur p1
  have g1 : Chg [r.p] w w1 := .of_pur p1
  clear c3 HB
  have c3 := h1.c3
  have f3 := h1.f 3
  have w4 : IntKind.i64.wrap ((i : Int) + 2) = (i : Int) + 2 := IntWalk.i64_in _ (by omega)
  have h2 := h1.seti (i + 2) ((i : Int) + 2) (by omega)
  have g2 := g1.trans (Chg.seti r w1 3 (.int .i64 ((i : Int) + 2)))
  have NM := rname_any h2 (by omega)
  rcases hnm : name (cs.drop (i + 2)) with ⟨k, n⟩ | ⟨nm, r1⟩
  · rw [hnm] at NM HC
    have HS := Lib.hid (show instr (cs.drop i) = .error (k, n) by rw [HC.out]; rfl)
    clear HC hnm hok
    go_wp2_with fail
    refine NM.mono ?_
    rintro e1 w3 ⟨⟨_, rfl, ul, rfl, hul⟩, i3, b3, d3, hn, h3, c4⟩
    clear NM c3 f3 h1 g1 h2
    have g3 := g2.trans c4
    have SM := fun w => rsmall_any ul w hul
    generalize ul.map sm8 = sv at SM
    have dn : ((n : Int) != 0) = true := by rw [bne_iff_ne]; omega
    go_wp2_with fail
    refine (SM _).mono ?_
    rintro e1 w4 ⟨rfl, p4⟩
    have h4 := h3.pur p4
    have g4 := g3.pur p4
    have c4 := h4.c4
    have c3 := h4.c3
    have f3 := h4.f 3
    have wj : IntKind.i64.wrap ((i3 : Int) + 2) = (i3 : Int) + 2 := IntWalk.i64_in _ (by omega)
    have h5 := h4.seti (i3 + 2) ((i3 : Int) + 2) (by omega)
    have g5 := g4.trans (Chg.seti r w4 3 (.int .i64 ((i3 : Int) + 2)))
    rcases hxm : (sv == [120, 109, 108]) with _ | _
    · go_wp2
      refine bodyPost_ret (results_none rfl _ _ _) rfl ?_
      rw [HS.out]
      exact ⟨⟨_, rfl, rfl⟩, i3 + 2, by omega, by omega, hn, h5, g5⟩
    · have BO := bad_err h4 hn (i : Int) 21
      go_wp2_with fail
      refine BO.mono ?_
      rintro e1 w5 ⟨rfl, rfl⟩
      go_wp2
      refine bodyPost_ret (results_none rfl _ _ _) rfl ?_
      rw [HS.out]
      exact ⟨⟨_, rfl, rfl⟩, i3 + 2, by omega, by omega, hn, h5, g5⟩
  rw [hnm] at NM HC
  simp only [and_ok] at HC
  obtain ⟨n1, n2, n3⟩ := name_ok hnm
  have hko : ∀ c ∈ nm, okc c := fun c hc => hok c (by rw [n1]; simp [hc])
  have hse := small_eq nm [120, 109, 108] hko (by decide)
  rw [show nats [120, 109, 108] = [120, 109, 108] from rfl] at hse
  have hnl := narrow_len nm
  have SM := fun w => rsmall_any (narrow nm) w (by omega)
  generalize (narrow nm).map sm8 = sv at SM hse
  clear hnm hok n1 n3 hko
  go_wp2_with fail
  refine NM.mono ?_
  rintro e1 w3 ⟨rfl, i3, a3, b3, d3, h3, c4⟩
  clear NM c3 f3 h1 g1 h2
  have g3 := g2.trans c4
  subst a3
  go_wp2_with fail
  refine (SM _).mono ?_
  rintro e1 w4 ⟨rfl, p4⟩
  have h4 := h3.pur p4
  have g4 := g3.pur p4
  clear h3 g3 SM c4 p4
  have c4 := h4.c4
  have c3 := h4.c3
  have f3 := h4.f 3
  have wj : IntKind.i64.wrap ((i3 : Int) + 2) = (i3 : Int) + 2 := IntWalk.i64_in _ (by omega)
  rcases hxm : (sv == [120, 109, 108]) with _ | _
  · rw [hxm] at hse
    have hne := of_decide_eq_false hse.symm
    have HC := Lib.hid (show instr (cs.drop i) = if pre [63, 62] (cs.drop i3) then .ok ((), (cs.drop i3).drop 2) else if hd blank (cs.drop i3) then (untilT [63, 62] (cs.drop i3)).and fun _ z => .ok ((), z) else .error ((cs.drop i3).length, 21) by
      rw [HC.out, if_neg hne])
    clear hse hne
    have HE := here_any h4 [63, 62] (by omega) (by decide)
    rw [show nats [63, 62] = [63, 62] from rfl] at HE
    rcases hpe : pre [63, 62] (cs.drop i3) with _ | _
    · rw [hpe] at HE HC
      go_wp2_with fail
      refine HE.mono ?_
      rintro e1 w5 ⟨rfl, p5⟩
      have h5 := h4.pur p5
      have g5 := g4.pur p5
      clear HE h4 g4 c4 c3 f3 p5
      have c4 := h5.c4
      have c3 := h5.c3
      have CC := c_any h5 i3 (by omega)
      have BL := fun w => rblank_any (pk (cs.drop i3)) w (on_pk' blank _ w)
      rw [on_pk] at BL
      rcases hb : hd blank (cs.drop i3) with _ | _
      · rw [hb] at BL HC
        have HS := Lib.hid (show instr (cs.drop i) = .error (cs.length - i3, 21) by rw [HC.out, List.length_drop]; simp)
        clear HC
        have BO := bad_ok h5 i3 21 (by omega)
        go_wp2_with fail
        refine CC.mono ?_
        rintro e1 w6 ⟨rfl, rfl⟩
        go_wp2_with fail
        refine (BL _).mono ?_
        rintro e1 w6 ⟨rfl, rfl⟩
        go_wp2_with fail
        refine BO.mono ?_
        rintro e1 w6 ⟨rfl, h6, c6⟩
        have TO := rto_err h6 (by omega) d3 [63, 62] (by simp) (by decide)
        go_wp2_with fail
        refine TO.mono ?_
        rintro e1 w7 ⟨⟨u7, rfl⟩, i7, b7, d7, h7, c7⟩
        go_wp2
        refine bodyPost_end (results_none rfl _ _ _) rfl ?_
        rw [HS.out]
        exact ⟨⟨_, rfl, rfl⟩, i7, by omega, by omega, by omega, by rw [show cs.length - (cs.length - i3) = i3 by omega]; exact h7, (g5.trans c6).trans c7⟩
      · rw [hb] at BL HC
        have HC := Lib.hid (show instr (cs.drop i) = (untilT [63, 62] (cs.drop i3)).and fun _ z => .ok ((), z) by rw [HC.out]; simp)
        have TO := rto_any h5 d3 [63, 62] (by simp) (by decide)
        rw [show nats [63, 62] = [63, 62] from rfl] at TO
        go_wp2_with fail
        refine CC.mono ?_
        rintro e1 w6 ⟨rfl, rfl⟩
        go_wp2_with fail
        refine (BL _).mono ?_
        rintro e1 w6 ⟨rfl, rfl⟩
        rcases hun : untilT [63, 62] (cs.drop i3) with ⟨k, n⟩ | ⟨a, z⟩
        · rw [hun] at TO HC
          have HS := Lib.hid (show instr (cs.drop i) = .error (k, n) by rw [HC.out]; rfl)
          clear HC hun
          go_wp2_with fail
          refine TO.mono ?_
          rintro e1 w7 ⟨⟨_, rfl, u7, rfl, -⟩, i7, b7, d7, hn, h7, c7⟩
          go_wp2
          refine bodyPost_end (results_none rfl _ _ _) rfl ?_
          rw [HS.out]
          exact ⟨⟨_, rfl, rfl⟩, i7, by omega, by omega, hn, h7, g5.trans c7⟩
        · rw [hun] at TO HC
          have HS := Lib.hid (show instr (cs.drop i) = .ok ((), z) by rw [HC.out]; rfl)
          clear HC hun
          go_wp2_with fail
          refine TO.mono ?_
          rintro e1 w7 ⟨rfl, i7, a7, b7, d7, h7, c7⟩
          replace a7 := Lib.hid a7
          go_wp2
          refine bodyPost_end (results_none rfl _ _ _) rfl ?_
          rw [HS.out]
          exact ⟨rfl, i7, a7.out, by omega, by omega, h7, g5.trans c7⟩
    · rw [hpe] at HE HC
      have hpl := pre_len' hpe
      rw [List.length_drop] at hpl
      simp only [List.length_cons, List.length_nil] at hpl
      have HS := Lib.hid (show instr (cs.drop i) = .ok ((), cs.drop (i3 + 2)) by rw [HC.out, List.drop_drop]; simp)
      clear HC
      go_wp2_with fail
      refine HE.mono ?_
      rintro e1 w5 ⟨rfl, p5⟩
      have h5 := h4.pur p5
      have g5 := g4.pur p5
      clear HE h4 g4 c4 c3 f3 p5
      have c3 := h5.c3
      have f3 := h5.f 3
      have h6 := h5.seti (i3 + 2) ((i3 : Int) + 2) (by omega)
      have g6 := g5.trans (Chg.seti r w5 3 (.int .i64 ((i3 : Int) + 2)))
      go_wp2
      refine bodyPost_ret (results_none rfl _ _ _) rfl ?_
      rw [HS.out]
      exact ⟨rfl, i3 + 2, rfl, by omega, by omega, h6, g6⟩
  · rw [hxm] at hse
    have hyes := of_decide_eq_true hse.symm
    have HS := Lib.hid (show instr (cs.drop i) = .error (cs.length - i, 21) by rw [HC.out, if_pos hyes])
    clear hse hyes HC
    have BO := bad_ok h4 i 21 (by omega)
    go_wp2_with fail
    refine BO.mono ?_
    rintro e1 w5 ⟨rfl, h5, c5⟩
    clear c4 c3 f3
    have c4 := h5.c4
    have c3 := h5.c3
    have f3 := h5.f 3
    have h6 := h5.seti (i3 + 2) ((i3 : Int) + 2) (by omega)
    have g6 := (g4.trans c5).trans (Chg.seti r w5 3 (.int .i64 ((i3 : Int) + 2)))
    go_wp2
    refine bodyPost_ret (results_none rfl _ _ _) rfl ?_
    rw [HS.out]
    exact ⟨⟨_, rfl, rfl⟩, i3 + 2, by omega, by omega, by omega, by rw [show cs.length - (cs.length - i) = i by omega]; exact h6, g6⟩
end Tk
end Go.Proofs.YtaknfofppknloaaGreatDoor
