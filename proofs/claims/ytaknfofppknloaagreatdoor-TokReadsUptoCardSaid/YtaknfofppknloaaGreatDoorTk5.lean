/- Layer 2: a name; up to a text. -/
import Derived.Test.YtaknfofppknloaaGreatDoorTk4
namespace Go.Proofs.YtaknfofppknloaaGreatDoor
open Go Go.RowKit
set_option linter.all false
namespace Tk
/-- a part of the characters, as a slice of them -/
theorem At.part {w : World} {p : Pl} {d : Sd} (h : At w p d) (a : Option Addr) (c : Nat) (hcv : p.cv = .slice a d.cs.length c) (i j : Nat) (hij : i ≤ j) (hj : j ≤ d.cs.length) (a' : Option Addr) (c' : Nat)
    (ha : i < j → a' = a.map fun x => x.add i) : IRead w (.slice a' (j - i) c') ((d.cs.drop i).take (j - i)) := by
  have hl : ((d.cs.drop i).take (j - i)).length = j - i := by rw [List.length_take, List.length_drop]; omega
  refine ⟨a', c', by rw [hl], fun k hk => ?_⟩
  rw [hl] at hk
  obtain ⟨g, c2, e2, _, hg, _, hc⟩ := row_at h.chars (by omega)
  rw [hcv] at e2
  cases e2
  refine ⟨g, i, ?_, hg, ?_⟩
  · rw [ha (by omega)]
    simp only [Option.map_some, Addr.add, Nat.zero_add]
    by_cases h0 : i = 0 <;> simp [h0]
  · have := (hc (i + k) (.int .i64 ((d.cs.getD (i + k) 0 : Nat) : Int)) (by simp [ints, List.getD_eq_getElem?_getD, List.getElem?_eq_getElem (show i + k < d.cs.length by omega)])).1
    rw [this]
    simp [List.getD_eq_getElem?_getD, List.getElem?_take, List.getElem?_drop, hk]
theorem takeWhile_drop (p : Nat → Bool) (cs : Cs) (i j : Nat) (hij : i ≤ j) (hj : j ≤ cs.length) (h1 : ∀ k, i ≤ k → k < j → p (cs.getD k 0) = true) (h2 : hd p (cs.drop j) = false) :
    (cs.drop i).takeWhile p = (cs.drop i).take (j - i) ∧ (cs.drop i).dropWhile p = cs.drop j := by
  induction hm : j - i generalizing i with
  | zero =>
    obtain rfl : i = j := by omega
    cases hx : cs.drop i with
    | nil => simp
    | cons x q => rw [hx] at h2; simp only [hd] at h2; rw [List.takeWhile_cons, List.dropWhile_cons, if_neg (by simp [h2]), if_neg (by simp [h2])]; simp
  | succ m ih =>
    have hx := drop_cons cs i (by omega)
    have := ih (i + 1) (by omega) (fun k hk hk2 => h1 k (by omega) hk2) (by omega)
    rw [hx]
    have hp := h1 i (by omega) (by omega)
    rw [List.takeWhile_cons, List.dropWhile_cons, if_pos hp, if_pos hp, this.1, this.2, List.take_succ_cons]
    exact ⟨rfl, rfl⟩
set_option maxRecDepth 100000 in
set_option maxHeartbeats 2000000 in
theorem name_any {w : World} {p : Pl} {d : Sd} (h : At w p d) (hi : d.i ≤ d.cs.length) : Calls Tryz.prog 54 #[.pointer (some ⟨p.s, 0, none⟩)] w fun e w' => Gives p d w (name d.rest) (fun nm => .string ⟨(narrow nm).toArray⟩) e w' := by
  have hcl := h.clen
  have c1 := h.c1
  have PK := peek_any h
  have BG := fun w => begins_any (pk d.rest) w (by cases d.rest <;> simp [pk] <;> omega)
  rw [on_pk] at BG
  obtain ⟨ca, cc, hcv, -, hcc, -⟩ := h.cshape
  rcases hb : hd begins d.rest with _ | _
  · rw [hb] at BG
    have hs : name d.rest = .error (d.rest.length, 21) := by unfold name; rw [hb]; rfl
    go_enter Tryz.func54, Tryz.ntmps54
    go_wp2_with fail
    refine PK.mono ?_
    rintro e w1 ⟨rfl, hp1⟩
    go_wp2_with fail
    refine (BG _).mono ?_
    rintro e w2 ⟨rfl, rfl⟩
    have h1 := h.pur hp1
    have c1 := h1.c1
    go_wp2_with fail
    refine (fail_any h1 [p.s] d.i 21 (by omega)).mono ?_
    intro e w2 hf
    obtain ⟨b, rfl, hf2⟩ := id hf
    go_wp2
    refine ⟨rfl, ?_⟩
    rw [hs]
    simp only [Gives]
    rw [rest_len, show d.cs.length - (d.cs.length - d.i) = d.i by omega]
    exact Flt.after (Chg.of_pur hp1) hf
  · rw [hb] at BG
    have hil : d.i < d.cs.length := by
      rcases Nat.lt_or_ge d.i d.cs.length with g | g
      · exact g
      · unfold Sd.rest at hb; rw [List.drop_of_length_le g] at hb; cases hb
    go_enter Tryz.func54, Tryz.ntmps54
    go_wp2_with fail
    refine PK.mono ?_
    rintro e w1 ⟨rfl, hp1⟩
    go_wp2_with fail
    refine (BG _).mono ?_
    rintro e w2 ⟨rfl, rfl⟩
    have h1 := h.pur hp1
    go_wp2
    go_loopw [18] (fun _ wr => ∃ j, d.i ≤ j ∧ j ≤ d.cs.length ∧ At wr p { d with i := j } ∧ Chg [p.s] w wr ∧ Hid (∀ k, d.i ≤ k → k < j → goesOn (d.cs.getD k 0) = true)) (fun _ wr => d.cs.length + 1 - natAt wr ⟨p.s, 1, none⟩)
    case atStart => exact ⟨d.i, by omega, by omega, h1, Chg.of_pur hp1, Lib.hid (fun k _ _ => by omega)⟩
    case round =>
      obtain ⟨j, j1, j2, h3, h4, H⟩ := hrel
      have PK := peek_any h3
      have GO := fun w => goesOn_any (pk (d.cs.drop j)) w (by cases d.cs.drop j <;> simp [pk] <;> omega)
      rw [on_pk] at GO
      unfold Sd.rest at PK
      simp only at PK
      rcases hg : hd goesOn (d.cs.drop j) with _ | _
      · rw [hg] at GO
        obtain ⟨ht, hd2⟩ := takeWhile_drop goesOn d.cs d.i j j1 j2 H.out hg
        have htl : ((d.cs.drop d.i).take (j - d.i)).length = j - d.i := by rw [List.length_take, List.length_drop]; omega
        have hs : name d.rest = if 64 < j - d.i then .error (d.rest.length, 2) else .ok ((d.cs.drop d.i).take (j - d.i), d.cs.drop j) := by unfold name; rw [hb, if_pos rfl]; unfold Sd.rest; rw [ht, hd2, htl]
        have w1 : IntKind.i64.wrap ((j : Int) - (d.i : Int)) = (j : Int) - (d.i : Int) := IntWalk.i64_in _ (by omega)
        go_wp2_with fail
        refine PK.mono ?_
        rintro e w4 ⟨rfl, hp4⟩
        go_wp2_with fail
        refine (GO _).mono ?_
        rintro e w5 ⟨rfl, rfl⟩
        have k3 := h3.pur hp4
        have c1 := k3.c1
        have hc4 := h4.pur hp4
        rcases Nat.lt_or_ge 64 (j - d.i) with g | g
        · have d1 : decide ((64 : Int) < (j : Int) - (d.i : Int)) = true := by simp; omega
          rw [if_pos g] at hs
          clear PK GO BG hg H ht hd2
          go_wp2_with fail
          refine (fail_any k3 [p.s] d.i 2 (by omega)).mono ?_
          intro e w6 hf
          obtain ⟨b, rfl, hf2⟩ := id hf
          go_wp2
          refine ⟨rfl, ?_⟩
          rw [hs]
          simp only [Gives]
          rw [rest_len, show d.cs.length - (d.cs.length - d.i) = d.i by omega]
          exact Flt.after hc4 hf
        · have d1 : decide ((64 : Int) < (j : Int) - (d.i : Int)) = false := by simp; omega
          rw [if_neg (by omega)] at hs
          have C0 : ∀ x : PW w4, x.to.cell? ⟨p.s, 0, none⟩ = some (.slice ca d.cs.length cc) := fun x => hcv ▸ (k3.pur x.pur).c0
          have C1 : ∀ x : PW w4, x.to.cell? ⟨p.s, 1, none⟩ = some (.int .i64 (j : Int)) := fun x => (k3.pur x.pur).c1
          have b1 : (d.i : Int) ≤ (j : Int) := by omega
          have b2 : (j : Int) ≤ (cc : Int) := by omega
          have b3 : (0 : Int) ≤ (d.i : Int) := by omega
          clear PK GO BG hg H ht hd2
          go_wp2
          have NR : ∀ x : PW w4, Calls Tryz.prog 59 #[.slice (if cc = d.i then ca else ca.map fun x => x.add d.i) (j - d.i) (cc - d.i)] x.to _ := fun x => narrow_any _ ((d.cs.drop d.i).take (j - d.i)) _ ((k3.pur x.pur).part ca cc hcv d.i j j1 j2 _ _ (fun hij => if_neg (by omega))) (fun c hc => allowed_okc (h.okcs c (List.mem_of_mem_drop (List.mem_of_mem_take hc)))) (by rw [htl]; omega)
          refine wp_region_pur (by kernel_rfl) (by kernel_rfl) ?_
          repeat (quiet_step ((go_at_call 59; with_reducible exact quiet_pur (NR _))))
          refine wpQuiet_nil ?_
          intro wq hq
          generalize (if cc = d.i then ca else ca.map fun x => x.add d.i) = ca' at *
          go_wp2
          go_ret
          try rw [hs]
          exact ⟨rfl, j, rfl, j1, j2, k3.pur hq, hc4.pur hq⟩
      · rw [hg] at GO
        have hj : j < d.cs.length := by
          rcases Nat.lt_or_ge j d.cs.length with g | g
          · exact g
          · rw [List.drop_of_length_le g] at hg; cases hg
        have w1 : IntKind.i64.wrap ((j : Int) + 1) = (j : Int) + 1 := IntWalk.i64_in _ (by omega)
        go_wp2_with fail
        refine PK.mono ?_
        rintro e w4 ⟨rfl, hp4⟩
        go_wp2_with fail
        refine (GO _).mono ?_
        rintro e w5 ⟨rfl, rfl⟩
        have k3 := h3.pur hp4
        have c1 := k3.c1
        have f1 := k3.f 1
        have k4 := k3.seti (j + 1) ((j : Int) + 1) (by omega)
        have e4 := k4.nat
        have e3 := h3.nat
        clear PK GO BG
        go_wp2
        go_roundw
        case rel =>
          refine ⟨j + 1, by omega, by omega, k4, (h4.pur hp4).setCell (.inl (by simp)) _, Lib.hid fun k g1 g2 => ?_⟩
          rcases Nat.lt_or_ge k j with g | g
          · exact H.out k g1 g
          · obtain rfl : k = j := by omega
            rw [drop_cons d.cs k hj] at hg
            exact hg
        case measure => rw [e3, e4]; omega
theorem pre_len {t xs : List Nat} (h : pre t xs = true) : t.length ≤ xs.length := by
  simp only [pre, decide_eq_true_eq] at h
  rw [← h, List.length_take]
  omega
/-- how 'until' ends: over the text; what stood ahead of it is a slice of the characters -/
def Cuts (p : Pl) (d : Sd) (w : World) (m : Nat) (r : R Cs) (e : Ending) (w' : World) : Prop := match r with
    | .ok (x, q) => ∃ v, e = .returned v ∧ Went p d w q w' ∧ IRead w' v x ∧ (∀ g, v.ownBlock = some g → p.cv.ownBlock = some g) ∧ x.length + m + q.length = d.rest.length ∧ ∀ c ∈ x, c ∈ d.rest
    | .error (k, n) => Flt [p.s] w d.cs (d.cs.length - k) n e w'
set_option maxRecDepth 100000 in
set_option maxHeartbeats 2000000 in
theorem until_any {w : World} {p : Pl} {d : Sd} (h : At w p d) (hi : d.i ≤ d.cs.length) (t : List UInt8) (ht : 0 < t.length) (ht2 : t.length ≤ 1000) : Calls Tryz.prog 29 #[.pointer (some ⟨p.s, 0, none⟩), .string ⟨t.toArray⟩] w fun e w' => Cuts p d w t.length (untilT (nats t) d.rest) e w' := by
  have hcl := h.clen
  have c1 := h.c1
  obtain ⟨ca, cc, hcv, -, hcc, -⟩ := h.cshape
  go_enter Tryz.func29, Tryz.ntmps29
  go_wp2
  go_loopw [10] (fun _ wr => ∃ j, d.i ≤ j ∧ j ≤ d.cs.length ∧ At wr p { d with i := j } ∧ Chg [p.s] w wr ∧ Hid (untilT (nats t) d.rest = (untilT (nats t) (d.cs.drop j)).and fun x q => .ok ((d.cs.drop d.i).take (j - d.i) ++ x, q))) (fun _ wr => d.cs.length + 1 - natAt wr ⟨p.s, 1, none⟩)
  case atStart => exact ⟨d.i, by omega, by omega, h, Chg.refl _ _, Lib.hid (by simp only [Nat.sub_self, List.take_zero, List.nil_append]; unfold Sd.rest; cases untilT (nats t) (d.cs.drop d.i) <;> rfl)⟩
  case round =>
    obtain ⟨j, j1, j2, h3, h4, H⟩ := hrel
    have AT := at_any h3 t j2 ht2
    simp only [Sd.rest] at AT
    rcases hp : pre (nats t) (d.cs.drop j) with _ | _
    · rw [hp] at AT
      go_wp2_with fail
      refine AT.mono ?_
      rintro e w1 ⟨rfl, hp1⟩
      have k3 := h3.pur hp1
      have PK := peek_any k3
      simp only [Sd.rest] at PK
      by_cases hj : j < d.cs.length
      · have hx := drop_cons d.cs j hj
        have d1 : (pk (d.cs.drop j) == -1) = false := by rw [hx]; simp [pk]
        have hs : untilT (nats t) (d.cs.drop j) = (untilT (nats t) (d.cs.drop (j + 1))).and fun a q => .ok (d.cs.getD j 0 :: a, q) := by
          rw [hx] at hp ⊢
          rw [untilT, hp]
          rfl
        have HS := Lib.hid (H.out)
        rw [hs] at HS
        have w1 : IntKind.i64.wrap ((j : Int) + 1) = (j : Int) + 1 := IntWalk.i64_in _ (by omega)
        clear H hx hs
        go_wp2_with fail
        refine PK.mono ?_
        rintro e w2 ⟨rfl, hp2⟩
        have k4 := k3.pur hp2
        have c1 := k4.c1
        have f1 := k4.f 1
        have k5 := k4.seti (j + 1) ((j : Int) + 1) (by omega)
        have e5 := k5.nat
        have e3 := h3.nat
        clear PK AT
        go_wp2
        go_roundw
        case rel =>
          refine ⟨j + 1, by omega, by omega, k5, ((h4.pur hp1).pur hp2).setCell (.inl (by simp)) _, Lib.hid ?_⟩
          rw [HS.out]
          have et : (d.cs.drop d.i).take (j + 1 - d.i) = (d.cs.drop d.i).take (j - d.i) ++ [d.cs.getD j 0] := by
            rw [show j + 1 - d.i = (j - d.i) + 1 by omega, List.take_succ_eq_append_getElem (by rw [List.length_drop]; omega)]
            congr 2
            rw [List.getElem_drop, List.getD_eq_getElem?_getD]
            simp only [show d.i + (j - d.i) = j by omega, List.getElem?_eq_getElem hj, Option.getD_some]
          rw [et]
          rcases untilT (nats t) (d.cs.drop (j + 1)) with x | ⟨x, q⟩
          · rfl
          · simp
        case measure => rw [e3, e5]; omega
      · have hx : d.cs.drop j = [] := List.drop_of_length_le (by omega)
        have d1 : (pk (d.cs.drop j) == -1) = true := by rw [hx]; rfl
        have HS := Lib.hid (show untilT (nats t) d.rest = .error (0, 21) by rw [H.out, hx]; rfl)
        clear H hx
        go_wp2_with fail
        refine PK.mono ?_
        rintro e w2 ⟨rfl, hp2⟩
        have k4 := k3.pur hp2
        have c1 := k4.c1
        go_wp2_with fail
        refine (fail_any k4 [p.s] j 21 (by omega)).mono ?_
        intro e w6 hf
        obtain ⟨b, rfl, hf2⟩ := id hf
        go_wp2
        refine ⟨rfl, ?_⟩
        rw [HS.out]
        simp only [Cuts]
        rw [show d.cs.length - 0 = j by omega]
        exact Flt.after ((h4.pur hp1).pur hp2) hf
    · rw [hp] at AT
      have hpl := pre_len hp
      have hN : (nats t).length = t.length := by simp [nats]
      rw [List.length_drop, hN] at hpl
      have HS : Hid (untilT (nats t) d.rest = .ok ((d.cs.drop d.i).take (j - d.i), d.cs.drop (j + t.length))) := by
        refine Lib.hid ?_
        rw [H.out, drop_cons d.cs j (by omega)]
        rw [drop_cons d.cs j (by omega)] at hp
        rw [untilT, hp, ← drop_cons d.cs j (by omega), hN, List.drop_drop]
        simp
      have w1 : IntKind.i64.wrap ((j : Int) + (t.length : Int)) = (j : Int) + (t.length : Int) := IntWalk.i64_in _ (by omega)
      have w2 : IntKind.i64.wrap (j : Int) = (j : Int) := IntWalk.i64_in _ (by omega)
      clear H
      go_wp2_with fail
      refine AT.mono ?_
      rintro e w2 ⟨rfl, hp1⟩
      have k3 := h3.pur hp1
      have c1 := k3.c1
      have f1 := k3.f 1
      have k5 := k3.seti (j + t.length) ((j : Int) + (t.length : Int)) (by omega)
      have C0 : ∀ x : PW (w2.setCell ⟨p.s, 1, none⟩ (.int .i64 ((j : Int) + (t.length : Int)))), x.to.cell? ⟨p.s, 0, none⟩ = some (.slice ca d.cs.length cc) := fun x => hcv ▸ (k5.pur x.pur).c0
      have C1 : ∀ x : PW (w2.setCell ⟨p.s, 1, none⟩ (.int .i64 ((j : Int) + (t.length : Int)))), x.to.cell? ⟨p.s, 1, none⟩ = some (.int .i64 ((j : Int) + (t.length : Int))) := fun x => by
        have := (k5.pur x.pur).c1
        rw [this]
        simp
      have b1 : (d.i : Int) ≤ (j : Int) := by omega
      have b2 : (j : Int) ≤ (cc : Int) := by omega
      have b3 : (0 : Int) ≤ (d.i : Int) := by omega
      clear AT
      go_wp2
      refine wp_region_pur (by kernel_rfl) (by kernel_rfl) ?_
      repeat (quiet_step (fail))
      refine wpQuiet_nil ?_
      intro wq hq
      go_wp2
      go_ret
      rw [HS.out]
      refine ⟨_, rfl, ⟨j + t.length, rfl, by omega, by omega, k5.pur hq, ((h4.pur hp1).setCell (.inl (by simp)) _).pur hq⟩, (k5.pur hq).part ca cc hcv d.i j j1 j2 _ _ (fun hij => by first | rfl | exact if_neg (by omega) | omega), fun g hg => ?_, ?_, fun c hc => List.mem_of_mem_take hc⟩
      · rw [hcv]
        rcases ca with _ | a
        · simp [Value.ownBlock] at hg
        · have ab : (a.add d.i).block = a.block := by unfold Addr.add; split <;> rfl
          by_cases hx : cc = d.i
          · simpa [Value.ownBlock, hx, ab] using hg
          · simpa [Value.ownBlock, hx, ab] using hg
      · rw [List.length_take, List.length_drop, List.length_drop, rest_len]
        omega
end Tk
end Go.Proofs.YtaknfofppknloaaGreatDoor
