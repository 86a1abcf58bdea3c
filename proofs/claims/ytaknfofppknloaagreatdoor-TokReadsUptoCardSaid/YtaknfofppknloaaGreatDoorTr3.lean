/- Layer 2, the document's answer: a name; up to a text. -/
import Derived.Test.YtaknfofppknloaaGreatDoorTr2
namespace Go.Proofs.YtaknfofppknloaaGreatDoor
open Go Go.RowKit
set_option linter.all false
namespace Tk
variable {w : World} {r : Ro} {cs : Cs} {i e : Nat} {wh : Nat × Nat}
theorem Str.narrow {cs : Cs} (a b : Nat) (hl : cs.length ≤ 65536) : Str (.string ⟨(narrow ((cs.drop a).take b)).toArray⟩) := by
  refine ⟨_, rfl, ?_⟩
  have h := narrow_len ((cs.drop a).take b)
  rw [List.length_take, List.length_drop] at h
  omega
theorem pre_len' {t : List Nat} {xs : Cs} (h : pre t xs = true) : t.length ≤ xs.length := by
  unfold pre at h
  have h1 := congrArg List.length (of_decide_eq_true h)
  rw [List.length_take] at h1
  omega
theorem Str.nil : Str (.string ⟨#[]⟩) := ⟨[], rfl, by simp⟩
set_option maxRecDepth 100000 in
set_option maxHeartbeats 4000000 in
theorem rname_any (h : Sc w r cs i 0 wh) (hi : i ≤ cs.length) : Calls Tryz.prog 40 #[.pointer (some ⟨r.p, 0, none⟩)] w fun e w' => Ends w r cs i wh (name (cs.drop i)) (fun nm => .string ⟨(narrow nm).toArray⟩) Str 0 e w' := by
  have hcl := h.clen
  have c3 := h.c3
  have CC := c_any h i (by omega)
  have BG := fun w => rbegins_any (pk (cs.drop i)) w (on_pk' begins _ w)
  rw [on_pk] at BG
  rcases hb : hd begins (cs.drop i) with _ | _
  · rw [hb] at BG
    have hs : name (cs.drop i) = .error ((cs.drop i).length, 21) := by unfold name; rw [hb]; rfl
    rw [hs, List.length_drop]
    have BO := fun w' (h' : Sc w' r cs i 0 wh) => bad_ok h' i 21 (by omega)
    clear hs hb
    go_enter Tryz.func40, Tryz.ntmps40
    go_wp2_with fail
    refine CC.mono ?_
    rintro e1 w1 ⟨rfl, rfl⟩
    go_wp2_with fail
    refine (BG _).mono ?_
    rintro e1 w2 ⟨rfl, rfl⟩
    go_wp2_with fail
    refine (BO _ h).mono ?_
    rintro e2 w2 ⟨rfl, h2, hc2⟩
    go_wp2
    go_ret
    refine ⟨⟨_, rfl, Str.nil⟩, i, by omega, by omega, by omega, ?_, hc2⟩
    rw [show cs.length - (cs.length - i) = i by omega]
    exact h2
  · rw [hb] at BG
    have hil : i < cs.length := by
      rcases Nat.lt_or_ge i cs.length with g | g
      · exact g
      · rw [List.drop_of_length_le g] at hb; cases hb
    go_enter Tryz.func40, Tryz.ntmps40
    go_wp2_with fail
    refine CC.mono ?_
    rintro e1 w1 ⟨rfl, rfl⟩
    go_wp2_with fail
    refine (BG _).mono ?_
    rintro e1 w2 ⟨rfl, rfl⟩
    go_wp2
    go_loopw [21] (fun _ wr => ∃ j, i ≤ j ∧ j ≤ cs.length ∧ Sc wr r cs j 0 wh ∧ Chg [r.p] w wr ∧ Hid (∀ k, i ≤ k → k < j → goesOn (cs.getD k 0) = true)) (fun _ wr => cs.length + 1 - natAt wr ⟨r.p, 3, none⟩)
    case atStart => exact ⟨i, by omega, by omega, h, Chg.refl _ _, Lib.hid (fun k _ _ => by omega)⟩
    case round =>
      obtain ⟨j, j1, j2, h3, h4, H⟩ := hrel
      have c3 := h3.c3
      have CC := c_any h3 j (by omega)
      have GO := fun w => rgoes_any (pk (cs.drop j)) w (on_pk' goesOn _ w)
      rw [on_pk] at GO
      rcases hg : hd goesOn (cs.drop j) with _ | _
      · rw [hg] at GO
        obtain ⟨ht, hd2⟩ := takeWhile_drop goesOn cs i j j1 j2 H.out hg
        have htl : ((cs.drop i).take (j - i)).length = j - i := by rw [List.length_take, List.length_drop]; omega
        have hs : name (cs.drop i) = if 64 < j - i then .error ((cs.drop i).length, 2) else .ok ((cs.drop i).take (j - i), cs.drop j) := by unfold name; rw [hb, if_pos rfl, ht, hd2, htl]
        have w1 : IntKind.i64.wrap ((j : Int) - (i : Int)) = (j : Int) - (i : Int) := IntWalk.i64_in _ (by omega)
        rcases Nat.lt_or_ge 64 (j - i) with g | g
        · have d1 : decide ((64 : Int) < (j : Int) - (i : Int)) = true := by simp; omega
          rw [if_pos g, List.length_drop] at hs
          have hs := Lib.hid hs
          have BO := bad_ok h3 i 2 (by omega)
          have PT := fun w' (h' : Sc w' r cs j 2 (place cs i)) => part_any h' i j j1 j2
          clear hg H ht hd2 htl
          go_wp2_with fail
          refine CC.mono ?_
          rintro e1 w4 ⟨rfl, rfl⟩
          go_wp2_with fail
          refine (GO _).mono ?_
          rintro e1 w4 ⟨rfl, rfl⟩
          go_wp2_with fail
          refine BO.mono ?_
          rintro e1 w4 ⟨rfl, h5, hc5⟩
          have c3 := h5.c3
          go_wp2_with fail
          refine (PT _ h5).mono ?_
          rintro e1 w5 ⟨rfl, rfl⟩
          go_wp2
          go_ret
          rw [hs.out]
          refine ⟨⟨_, rfl, Str.narrow _ _ hcl⟩, j, j1, by omega, by omega, ?_, h4.trans hc5⟩
          rw [show cs.length - (cs.length - i) = i by omega]
          exact h5
        · have d1 : decide ((64 : Int) < (j : Int) - (i : Int)) = false := by simp; omega
          rw [if_neg (by omega)] at hs
          have hs := Lib.hid hs
          have PT := part_any h3 i j j1 j2
          clear hg H ht hd2 htl
          go_wp2_with fail
          refine CC.mono ?_
          rintro e1 w4 ⟨rfl, rfl⟩
          go_wp2_with fail
          refine (GO _).mono ?_
          rintro e1 w4 ⟨rfl, rfl⟩
          go_wp2_with fail
          refine PT.mono ?_
          rintro e1 w5 ⟨rfl, rfl⟩
          go_wp2
          go_ret
          rw [hs.out]
          exact ⟨rfl, j, rfl, j1, j2, h3, h4⟩
      · rw [hg] at GO
        have hj : j < cs.length := by
          rcases Nat.lt_or_ge j cs.length with g | g
          · exact g
          · rw [List.drop_of_length_le g] at hg; cases hg
        have w1 : IntKind.i64.wrap ((j : Int) + 1) = (j : Int) + 1 := IntWalk.i64_in _ (by omega)
        have f3 := h3.f 3
        have k4 := h3.seti (j + 1) ((j : Int) + 1) (by omega)
        have e4 := k4.nat
        have e3 := h3.nat
        have hc4 := h4.trans (Chg.seti r wr 3 (.int .i64 ((j : Int) + 1)))
        have H' := Lib.hid (show ∀ k, i ≤ k → k < j + 1 → goesOn (cs.getD k 0) = true from fun k k1 k2 => by
          rcases Nat.lt_or_ge k j with k3 | k3
          · exact H.out k k1 k3
          · obtain rfl : k = j := by omega
            rw [drop_cons cs k hj] at hg
            exact hg)
        clear H hg
        go_wp2_with fail
        refine CC.mono ?_
        rintro e1 w4 ⟨rfl, rfl⟩
        go_wp2_with fail
        refine (GO _).mono ?_
        rintro e1 w4 ⟨rfl, rfl⟩
        go_wp2
        go_roundw
        case rel => exact ⟨j + 1, by omega, by omega, k4, hc4, H'⟩
        case measure => rw [e4, e3]; omega
theorem until_go (t : List Nat) (cs : Cs) (i j : Nat) (hij : i ≤ j) (hj : j < cs.length) (hp : pre t (cs.drop j) = false)
    (H : untilT t (cs.drop i) = (untilT t (cs.drop j)).and fun a q => .ok ((cs.drop i).take (j - i) ++ a, q)) :
    untilT t (cs.drop i) = (untilT t (cs.drop (j + 1))).and fun a q => .ok ((cs.drop i).take (j + 1 - i) ++ a, q) := by
  have e : (cs.drop i).take (j + 1 - i) = (cs.drop i).take (j - i) ++ [cs.getD j 0] := by
    rw [show j + 1 - i = (j - i) + 1 by omega, List.take_succ_eq_append_getElem (by rw [List.length_drop]; omega)]
    congr 2
    rw [List.getElem_drop, List.getD_eq_getElem?_getD, List.getElem?_eq_getElem (show j < cs.length by omega)]
    simp only [show i + (j - i) = j by omega, Option.getD_some]
  rw [H, drop_cons cs j hj]
  rw [drop_cons cs j hj] at hp
  conv => lhs; unfold untilT
  rw [hp, if_neg (by simp), e]
  rcases untilT t (cs.drop (j + 1)) with e | ⟨a, q⟩
  · rfl
  · simp
set_option maxRecDepth 100000 in
set_option maxHeartbeats 8000000 in
theorem rto_any (h : Sc w r cs i 0 wh) (hi : i ≤ cs.length) (t : List UInt8) (ht0 : t ≠ []) (ht : t.length ≤ 1000) : Calls Tryz.prog 15 #[.pointer (some ⟨r.p, 0, none⟩), .string ⟨t.toArray⟩] w fun e w' => Ends w r cs i wh (untilT (nats t) (cs.drop i)) (fun a => .string ⟨(narrow a).toArray⟩) Str 0 e w' := by
  have hcl := h.clen
  have c3 := h.c3
  have hN : (nats t).length = t.length := by simp [nats]
  have ht1 : 0 < t.length := List.length_pos_iff.2 ht0
  obtain ⟨ca, cc, hcv, -, -, -⟩ := h.cshape
  go_enter Tryz.func15, Tryz.ntmps15
  go_wp2
  go_loopw [26] (fun _ wr => ∃ j, i ≤ j ∧ j ≤ cs.length ∧ Sc wr r cs j 0 wh ∧ Chg [r.p] w wr ∧ Hid (untilT (nats t) (cs.drop i) = (untilT (nats t) (cs.drop j)).and fun a q => .ok ((cs.drop i).take (j - i) ++ a, q))) (fun _ wr => cs.length + 1 - natAt wr ⟨r.p, 3, none⟩)
  case atStart => exact ⟨i, by omega, by omega, h, Chg.refl _ _, Lib.hid (by rcases untilT (nats t) (cs.drop i) with e | ⟨a, q⟩ <;> simp)⟩
  case round =>
    obtain ⟨j, j1, j2, h3, h4, H⟩ := hrel
    have C1 : ∀ x : PW wr, x.to.cell? ⟨r.p, 1, none⟩ = some (.slice ca cs.length cc) := fun x => hcv ▸ (h3.pur x.pur).c1
    have C3 : ∀ x : PW wr, x.to.cell? ⟨r.p, 3, none⟩ = some (.int .i64 (j : Int)) := fun x => (h3.pur x.pur).c3
    have HE := fun x : PW wr => here_any (h3.pur x.pur) t (by omega) ht
    by_cases hj : j < cs.length
    · have hj' : (j : Int) < cs.length := by omega
      rcases hp : pre (nats t) (cs.drop j) with _ | _
      · rw [hp] at HE
        have H' := Lib.hid (until_go _ cs i j j1 hj hp H.out)
        clear H hp
        go_wp2
        refine wp_region_pur (by kernel_rfl) (by kernel_rfl) ?_
        repeat (go_big_quiet_step (((go_at_call 13; with_reducible exact quiet_pur (HE _)))))
        refine wpQuiet_nil ?_
        intro wq hq
        clear C1 C3 HE
        have k3 := h3.pur hq
        have c3 := k3.c3
        have f3 := k3.f 3
        have w1 : IntKind.i64.wrap ((j : Int) + 1) = (j : Int) + 1 := IntWalk.i64_in _ (by omega)
        have k4 := k3.seti (j + 1) ((j : Int) + 1) (by omega)
        have e4 := k4.nat
        have e3 := h3.nat
        have hc4 := (h4.pur hq).trans (Chg.seti r wq 3 (.int .i64 ((j : Int) + 1)))
        go_wp2
        go_roundw
        case rel => exact ⟨j + 1, by omega, by omega, k4, hc4, H'⟩
        case measure => rw [e4, e3]; omega
      · rw [hp] at HE
        have hu : untilT (nats t) (cs.drop i) = .ok ((cs.drop i).take (j - i), cs.drop (j + t.length)) := by
          rw [H.out, drop_cons cs j hj]
          rw [drop_cons cs j hj] at hp
          conv => lhs; unfold untilT
          rw [hp, if_pos rfl, and_ok, List.append_nil, ← drop_cons cs j hj, List.drop_drop, hN]
        have hpl := pre_len' hp
        rw [hN, List.length_drop] at hpl
        have hu := Lib.hid hu
        clear H hp
        go_wp2
        refine wp_region_pur (by kernel_rfl) (by kernel_rfl) ?_
        repeat (go_big_quiet_step (((go_at_call 13; with_reducible exact quiet_pur (HE _)))))
        refine wpQuiet_nil ?_
        intro wq hq
        have k3 := h3.pur hq
        have D1 : ∀ x : PW wq, x.to.cell? ⟨r.p, 1, none⟩ = some (.slice ca cs.length cc) := fun x => hcv ▸ (k3.pur x.pur).c1
        have D3 : ∀ x : PW wq, x.to.cell? ⟨r.p, 3, none⟩ = some (.int .i64 (j : Int)) := fun x => (k3.pur x.pur).c3
        clear C1 C3 HE
        go_wp2
        refine wp_region_pur (by kernel_rfl) (by kernel_rfl) ?_
        repeat (go_big_quiet_step (fail))
        refine wpQuiet_nil ?_
        intro wq2 hq2
        have k5 := k3.pur hq2
        have c3 := k5.c3
        have f3 := k5.f 3
        have PT := part_any k5 i j j1 j2
        clear D1 D3
        go_wp2_with fail
        refine PT.mono ?_
        rintro e1 w5 ⟨rfl, rfl⟩
        have w1 : IntKind.i64.wrap ((j : Int) + (t.length : Int)) = (j : Int) + (t.length : Int) := IntWalk.i64_in _ (by omega)
        have k6 := k5.seti (j + t.length) ((j : Int) + (t.length : Int)) (by omega)
        have hc6 := ((h4.pur hq).pur hq2).trans (Chg.seti r wq2 3 (.int .i64 ((j : Int) + (t.length : Int))))
        go_wp2
        go_ret
        rw [hu.out]
        exact ⟨rfl, j + t.length, rfl, by omega, by omega, k6, hc6⟩
    · obtain rfl : j = cs.length := by omega
      have hj' : ¬ ((cs.length : Int) < cs.length) := by omega
      have hu : untilT (nats t) (cs.drop i) = .error (0, 21) := by
        rw [H.out, List.drop_length]; unfold untilT; rfl
      have hu := Lib.hid hu
      clear H HE
      go_wp2
      refine wp_region_pur (by kernel_rfl) (by kernel_rfl) ?_
      repeat (go_big_quiet_step (fail))
      refine wpQuiet_nil ?_
      intro wq hq
      have k3 := h3.pur hq
      have D1 : ∀ x : PW wq, x.to.cell? ⟨r.p, 1, none⟩ = some (.slice ca cs.length cc) := fun x => hcv ▸ (k3.pur x.pur).c1
      have D3 : ∀ x : PW wq, x.to.cell? ⟨r.p, 3, none⟩ = some (.int .i64 (cs.length : Int)) := fun x => (k3.pur x.pur).c3
      clear C1 C3
      go_wp2
      refine wp_region_pur (by kernel_rfl) (by kernel_rfl) ?_
      repeat (go_big_quiet_step (fail))
      refine wpQuiet_nil ?_
      intro wq2 hq2
      have k5 := k3.pur hq2
      have c3 := k5.c3
      have BO := bad_ok k5 cs.length 21 (by omega)
      clear D1 D3
      go_wp2_with fail
      refine BO.mono ?_
      rintro e1 w5 ⟨rfl, h6, hc6⟩
      go_wp2
      go_ret
      rw [hu.out]
      exact ⟨⟨_, rfl, Str.nil⟩, cs.length, j1, by omega, by omega, h6, ((h4.pur hq).pur hq2).trans hc6⟩
end Tk
end Go.Proofs.YtaknfofppknloaaGreatDoor
