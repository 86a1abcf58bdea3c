/- Layer 2: characters as UTF-8 (narrow). Layer 2: a name; up to a text. Layer 2: strings.IndexRune beyond ASCII at the digits; the number of a reference. -/
import Derived.Test.YtigfcchblfnnbaaGreatDoorTkA
import Derived.Laws.Runes
import Derived.Laws.RangeString
import Derived.WalkMore
import Derived.Laws.BitsAllLaws
namespace Go.Proofs.YtigfcchblfnnbaaGreatDoor
open Go Go.RowKit
set_option linter.all false
namespace Tk
/-- a slice that reads as these characters -/
def IRead (w : World) (v : Value) (cs : Cs) : Prop := ∃ a c, v = .slice a cs.length c ∧ ∀ k, k < cs.length → ∃ g o, a = some ⟨g, o, none⟩ ∧ g < w.heap.size ∧ w.cell? ⟨g, o + k, none⟩ = some (.int .i64 ((cs.getD k 0 : Nat) : Int))
theorem IRead.pur {w w' : World} {v : Value} {cs : Cs} (h : IRead w v cs) (hp : Pur w w') : IRead w' v cs := by
  obtain ⟨a, c, e, h⟩ := h
  refine ⟨a, c, e, fun k hk => ?_⟩
  obtain ⟨g, o, e1, e2, e3⟩ := h k hk
  exact ⟨g, o, e1, Nat.lt_of_lt_of_le e2 hp.size, (hp.cell (p := ⟨g, o + k, none⟩) e2).trans e3⟩
theorem IRead.of_own {w : World} {B : Nat} {e : TypeId} {v : Value} {cs : Cs} (h : w.ownsRow B e 1 v cs.length (ints cs)) : IRead w v cs := by
  rcases Nat.eq_zero_or_pos cs.length with h0 | h0
  · obtain ⟨a, c, e⟩ := row_shape h
    exact ⟨a, c, e, fun k hk => by omega⟩
  · obtain ⟨g, c, e, _, hg, _, hc⟩ := row_at h h0
    refine ⟨_, c, e, fun k hk => ⟨g, 0, rfl, hg, ?_⟩⟩
    rw [Nat.zero_add]
    exact (hc k _ (by simp [ints, List.getElem?_eq_getElem hk])).1
theorem narrow_snoc (cs : Cs) (n : Nat) (h : n < cs.length) : narrow (cs.take (n + 1)) = narrow (cs.take n) ++ enc (cs.getD n 0) := by
  unfold narrow
  rw [List.take_succ_eq_append_getElem h, List.flatMap_append, List.getD_eq_getElem?_getD, List.getElem?_eq_getElem h]
  simp only [List.flatMap_cons, List.flatMap_nil, List.append_nil, Option.getD_some]
theorem narrow_len (cs : Cs) : (narrow cs).length ≤ 4 * cs.length := by
  unfold narrow
  induction cs with
  | nil => simp
  | cons c cs ih => have := enc_len c; simp only [List.flatMap_cons, List.length_append, List.length_cons]; omega
set_option maxRecDepth 100000 in
set_option maxHeartbeats 2000000 in
theorem narrow_any (v : Value) (cs : Cs) (w : World) (h : IRead w v cs) (hok : ∀ c ∈ cs, okc c) (hl : cs.length ≤ 1000000) :
    Calls Tryz.prog 86 #[v] w fun e w' => e = .returned (.string ⟨(narrow cs).toArray⟩) ∧ Pur w w' := by
  have hR : ∀ w', Pur w w' → IRead w' v cs := fun w' hp => h.pur hp
  obtain ⟨a, c, rfl, -⟩ := h
  go_enter Tryz.func86, Tryz.ntmps86
  go_wp2
  go_loopw [8] (fun k wr => ∃ n : Nat, n ≤ cs.length ∧ k = .int .i64 n ∧ Lib.IsBuilder 77 5 w.heap.size w.heap.size (Lib.byteCells (narrow (cs.take n))) wr ∧ Pur w wr) (fun k _ => cs.length + 1 - (intOf k).toNat)
  case atStart => exact ⟨0, by omega, rfl, Lib.fresh_isBuilder _ _ w, (Pur.refl w).alloc _⟩
  case round =>
    obtain ⟨n, hn, rfl, hown, hpr⟩ := hrel
    by_cases hlt : n < cs.length
    · have hlt' : (n : Int) < cs.length := by omega
      obtain ⟨a', c', e', hk⟩ := hR wr hpr
      cases e'
      obtain ⟨g, o, rfl, -, hk⟩ := hk n hlt
      have hsn := narrow_snoc cs n hlt
      have hx : okc (cs.getD n 0) := by rw [List.getD_eq_getElem?_getD, List.getElem?_eq_getElem hlt]; exact hok _ (List.getElem_mem hlt)
      have hnl := narrow_len (cs.take n)
      rw [List.length_take] at hnl
      generalize cs.getD n 0 = x at *
      have hxb : x ≤ 1114111 := by unfold okc at hx; omega
      have BR := fun w2 h2 h3 => bld_rune w.heap.size w.heap.size (narrow (cs.take n)) x hx w2 h2 (by omega) h3
      have w1 : IntKind.i32.wrap (x : Int) = (x : Int) := IntWalk.i32_in _ (by omega)
      clear hR
      go_wp2_with fail
      refine (BR _ hown hpr.size).mono ?_
      rintro e w1 ⟨⟨m, rfl⟩, hown1, hpr1⟩
      go_wp2
      go_roundw
      case rel => exact ⟨n + 1, by omega, by go_num, .inr (hsn ▸ hown1), Below.trans hpr hpr1⟩
      case measure => simp [intOf]; omega
    · obtain rfl : n = cs.length := by omega
      rw [List.take_length] at hown
      go_wp2_with fail
      refine (Tryz.Builder_String_any w.heap.size w.heap.size _ _ hown hpr.size).mono ?_
      rintro e w1 ⟨rfl, h1⟩
      go_wp2
      go_ret
      exact ⟨rfl, Below.trans hpr h1⟩
end Tk
end Go.Proofs.YtigfcchblfnnbaaGreatDoor
namespace Go.Proofs.YtigfcchblfnnbaaGreatDoor
open Go Go.RowKit
set_option linter.all false
namespace Tk
/-- a part of the characters, as a slice of them -/
theorem At.part {w : World} {p : Pl} {d : Sd} (h : At w p d) (a : Option Addr) (c : Nat) (hcv : p.cv = .slice a d.cs.length c) (i j : Nat) (hij : i ≤ j) (hj : j ≤ d.cs.length) (a' : Option Addr) (c' : Nat)
    (ha : i < j → a' = a.map fun x => x.add i) : IRead w (.slice a' (j - i) c') ((d.cs.drop i).take (j - i)) := by
  have hl : ((d.cs.drop i).take (j - i)).length = j - i := by rw [List.length_take, List.length_drop]; omega
  refine ⟨a', c', by rw [hl], fun k hk => ?_⟩
  rw [hl] at hk
  obtain ⟨g, c2, e2, _, hg, _, hc⟩ := row_at h.chars (by omega)
  rw [hcv] at e2
  cases e2
  refine ⟨g, i, ?_, hg, ?_⟩
  · rw [ha (by omega)]
    simp only [Option.map_some, Addr.add, Nat.zero_add]
    by_cases h0 : i = 0 <;> simp [h0]
  · have := (hc (i + k) (.int .i64 ((d.cs.getD (i + k) 0 : Nat) : Int)) (by simp [ints, List.getD_eq_getElem?_getD, List.getElem?_eq_getElem (show i + k < d.cs.length by omega)])).1
    rw [this]
    simp [List.getD_eq_getElem?_getD, List.getElem?_take, List.getElem?_drop, hk]
theorem takeWhile_drop (p : Nat → Bool) (cs : Cs) (i j : Nat) (hij : i ≤ j) (hj : j ≤ cs.length) (h1 : ∀ k, i ≤ k → k < j → p (cs.getD k 0) = true) (h2 : hd p (cs.drop j) = false) :
    (cs.drop i).takeWhile p = (cs.drop i).take (j - i) ∧ (cs.drop i).dropWhile p = cs.drop j := by
  induction hm : j - i generalizing i with
  | zero =>
    obtain rfl : i = j := by omega
    cases hx : cs.drop i with
    | nil => simp
    | cons x q => rw [hx] at h2; simp only [hd] at h2; rw [List.takeWhile_cons, List.dropWhile_cons, if_neg (by simp [h2]), if_neg (by simp [h2])]; simp
  | succ m ih =>
    have hx := drop_cons cs i (by omega)
    have := ih (i + 1) (by omega) (fun k hk hk2 => h1 k (by omega) hk2) (by omega)
    rw [hx]
    have hp := h1 i (by omega) (by omega)
    rw [List.takeWhile_cons, List.dropWhile_cons, if_pos hp, if_pos hp, this.1, this.2, List.take_succ_cons]
    exact ⟨rfl, rfl⟩
set_option maxRecDepth 100000 in
set_option maxHeartbeats 2000000 in
theorem name_any {w : World} {p : Pl} {d : Sd} (h : At w p d) (hi : d.i ≤ d.cs.length) : Calls Tryz.prog 81 #[.pointer (some ⟨p.s, 0, none⟩)] w fun e w' => Gives p d w (name d.rest) (fun nm => .string ⟨(narrow nm).toArray⟩) e w' := by
  have hcl := h.clen
  have c1 := h.c1
  have PK := peek_any h
  have BG := fun w => begins_any (pk d.rest) w (by cases d.rest <;> simp [pk] <;> omega)
  rw [on_pk] at BG
  obtain ⟨ca, cc, hcv, -, hcc, -⟩ := h.cshape
  rcases hb : hd begins d.rest with _ | _
  · rw [hb] at BG
    have hs : name d.rest = .error (d.rest.length, 21) := by unfold name; rw [hb]; rfl
    go_enter Tryz.func81, Tryz.ntmps81
    go_wp2_with fail
    refine PK.mono ?_
    rintro e w1 ⟨rfl, hp1⟩
    go_wp2_with fail
    refine (BG _).mono ?_
    rintro e w2 ⟨rfl, rfl⟩
    have h1 := h.pur hp1
    have c1 := h1.c1
    go_wp2_with fail
    refine (fail_any h1 [p.s] d.i 21 (by omega)).mono ?_
    intro e w2 hf
    obtain ⟨b, rfl, hf2⟩ := id hf
    go_wp2
    refine ⟨rfl, ?_⟩
    rw [hs]
    simp only [Gives]
    rw [rest_len, show d.cs.length - (d.cs.length - d.i) = d.i by omega]
    exact Flt.after (Chg.of_pur hp1) hf
  · rw [hb] at BG
    have hil : d.i < d.cs.length := by
      rcases Nat.lt_or_ge d.i d.cs.length with g | g
      · exact g
      · unfold Sd.rest at hb; rw [List.drop_of_length_le g] at hb; cases hb
    go_enter Tryz.func81, Tryz.ntmps81
    go_wp2_with fail
    refine PK.mono ?_
    rintro e w1 ⟨rfl, hp1⟩
    go_wp2_with fail
    refine (BG _).mono ?_
    rintro e w2 ⟨rfl, rfl⟩
    have h1 := h.pur hp1
    go_wp2
    go_loopw [18] (fun _ wr => ∃ j, d.i ≤ j ∧ j ≤ d.cs.length ∧ At wr p { d with i := j } ∧ Chg [p.s] w wr ∧ Hid (∀ k, d.i ≤ k → k < j → goesOn (d.cs.getD k 0) = true)) (fun _ wr => d.cs.length + 1 - natAt wr ⟨p.s, 1, none⟩)
    case atStart => exact ⟨d.i, by omega, by omega, h1, Chg.of_pur hp1, Lib.hid (fun k _ _ => by omega)⟩
    case round =>
      obtain ⟨j, j1, j2, h3, h4, H⟩ := hrel
      have PK := peek_any h3
      have GO := fun w => goesOn_any (pk (d.cs.drop j)) w (by cases d.cs.drop j <;> simp [pk] <;> omega)
      rw [on_pk] at GO
      unfold Sd.rest at PK
      simp only at PK
      rcases hg : hd goesOn (d.cs.drop j) with _ | _
      · rw [hg] at GO
        obtain ⟨ht, hd2⟩ := takeWhile_drop goesOn d.cs d.i j j1 j2 H.out hg
        have htl : ((d.cs.drop d.i).take (j - d.i)).length = j - d.i := by rw [List.length_take, List.length_drop]; omega
        have hs : name d.rest = if 64 < j - d.i then .error (d.rest.length, 2) else .ok ((d.cs.drop d.i).take (j - d.i), d.cs.drop j) := by unfold name; rw [hb, if_pos rfl]; unfold Sd.rest; rw [ht, hd2, htl]
        have w1 : IntKind.i64.wrap ((j : Int) - (d.i : Int)) = (j : Int) - (d.i : Int) := IntWalk.i64_in _ (by omega)
        go_wp2_with fail
        refine PK.mono ?_
        rintro e w4 ⟨rfl, hp4⟩
        go_wp2_with fail
        refine (GO _).mono ?_
        rintro e w5 ⟨rfl, rfl⟩
        have k3 := h3.pur hp4
        have c1 := k3.c1
        have hc4 := h4.pur hp4
        rcases Nat.lt_or_ge 64 (j - d.i) with g | g
        · have d1 : decide ((64 : Int) < (j : Int) - (d.i : Int)) = true := by simp; omega
          rw [if_pos g] at hs
          clear PK GO BG hg H ht hd2
          go_wp2_with fail
          refine (fail_any k3 [p.s] d.i 2 (by omega)).mono ?_
          intro e w6 hf
          obtain ⟨b, rfl, hf2⟩ := id hf
          go_wp2
          refine ⟨rfl, ?_⟩
          rw [hs]
          simp only [Gives]
          rw [rest_len, show d.cs.length - (d.cs.length - d.i) = d.i by omega]
          exact Flt.after hc4 hf
        · have d1 : decide ((64 : Int) < (j : Int) - (d.i : Int)) = false := by simp; omega
          rw [if_neg (by omega)] at hs
          have C0 : ∀ x : PW w4, x.to.cell? ⟨p.s, 0, none⟩ = some (.slice ca d.cs.length cc) := fun x => hcv ▸ (k3.pur x.pur).c0
          have C1 : ∀ x : PW w4, x.to.cell? ⟨p.s, 1, none⟩ = some (.int .i64 (j : Int)) := fun x => (k3.pur x.pur).c1
          have b1 : (d.i : Int) ≤ (j : Int) := by omega
          have b2 : (j : Int) ≤ (cc : Int) := by omega
          have b3 : (0 : Int) ≤ (d.i : Int) := by omega
          clear PK GO BG hg H ht hd2
          go_wp2
          have NR : ∀ x : PW w4, Calls Tryz.prog 86 #[.slice (if cc = d.i then ca else ca.map fun x => x.add d.i) (j - d.i) (cc - d.i)] x.to _ := fun x => narrow_any _ ((d.cs.drop d.i).take (j - d.i)) _ ((k3.pur x.pur).part ca cc hcv d.i j j1 j2 _ _ (fun hij => if_neg (by omega))) (fun c hc => allowed_okc (h.okcs c (List.mem_of_mem_drop (List.mem_of_mem_take hc)))) (by rw [htl]; omega)
          refine wp_region_pur (by kernel_rfl) (by kernel_rfl) ?_
          repeat (quiet_step ((go_at_call 86; with_reducible exact quiet_pur (NR _))))
          refine wpQuiet_nil ?_
          intro wq hq
          generalize (if cc = d.i then ca else ca.map fun x => x.add d.i) = ca' at *
          go_wp2
          go_ret
          try rw [hs]
          exact ⟨rfl, j, rfl, j1, j2, k3.pur hq, hc4.pur hq⟩
      · rw [hg] at GO
        have hj : j < d.cs.length := by
          rcases Nat.lt_or_ge j d.cs.length with g | g
          · exact g
          · rw [List.drop_of_length_le g] at hg; cases hg
        have w1 : IntKind.i64.wrap ((j : Int) + 1) = (j : Int) + 1 := IntWalk.i64_in _ (by omega)
        go_wp2_with fail
        refine PK.mono ?_
        rintro e w4 ⟨rfl, hp4⟩
        go_wp2_with fail
        refine (GO _).mono ?_
        rintro e w5 ⟨rfl, rfl⟩
        have k3 := h3.pur hp4
        have c1 := k3.c1
        have f1 := k3.f 1
        have k4 := k3.seti (j + 1) ((j : Int) + 1) (by omega)
        have e4 := k4.nat
        have e3 := h3.nat
        clear PK GO BG
        go_wp2
        go_roundw
        case rel =>
          refine ⟨j + 1, by omega, by omega, k4, (h4.pur hp4).setCell (.inl (by simp)) _, Lib.hid fun k g1 g2 => ?_⟩
          rcases Nat.lt_or_ge k j with g | g
          · exact H.out k g1 g
          · obtain rfl : k = j := by omega
            rw [drop_cons d.cs k hj] at hg
            exact hg
        case measure => rw [e3, e4]; omega
theorem pre_len {t xs : List Nat} (h : pre t xs = true) : t.length ≤ xs.length := by
  simp only [pre, decide_eq_true_eq] at h
  rw [← h, List.length_take]
  omega
/-- how 'until' ends: over the text; what stood ahead of it is a slice of the characters -/
def Cuts (p : Pl) (d : Sd) (w : World) (m : Nat) (r : R Cs) (e : Ending) (w' : World) : Prop := match r with
    | .ok (x, q) => ∃ v, e = .returned v ∧ Went p d w q w' ∧ IRead w' v x ∧ (∀ g, v.ownBlock = some g → p.cv.ownBlock = some g) ∧ x.length + m + q.length = d.rest.length ∧ ∀ c ∈ x, c ∈ d.rest
    | .error (k, n) => Flt [p.s] w d.cs (d.cs.length - k) n e w'
set_option maxRecDepth 100000 in
set_option maxHeartbeats 2000000 in
theorem until_any {w : World} {p : Pl} {d : Sd} (h : At w p d) (hi : d.i ≤ d.cs.length) (t : List UInt8) (ht : 0 < t.length) (ht2 : t.length ≤ 1000) : Calls Tryz.prog 51 #[.pointer (some ⟨p.s, 0, none⟩), .string ⟨t.toArray⟩] w fun e w' => Cuts p d w t.length (untilT (nats t) d.rest) e w' := by
  have hcl := h.clen
  have c1 := h.c1
  obtain ⟨ca, cc, hcv, -, hcc, -⟩ := h.cshape
  go_enter Tryz.func51, Tryz.ntmps51
  go_wp2
  go_loopw [10] (fun _ wr => ∃ j, d.i ≤ j ∧ j ≤ d.cs.length ∧ At wr p { d with i := j } ∧ Chg [p.s] w wr ∧ Hid (untilT (nats t) d.rest = (untilT (nats t) (d.cs.drop j)).and fun x q => .ok ((d.cs.drop d.i).take (j - d.i) ++ x, q))) (fun _ wr => d.cs.length + 1 - natAt wr ⟨p.s, 1, none⟩)
  case atStart => exact ⟨d.i, by omega, by omega, h, Chg.refl _ _, Lib.hid (by simp only [Nat.sub_self, List.take_zero, List.nil_append]; unfold Sd.rest; cases untilT (nats t) (d.cs.drop d.i) <;> rfl)⟩
  case round =>
    obtain ⟨j, j1, j2, h3, h4, H⟩ := hrel
    have AT := at_any h3 t j2 ht2
    simp only [Sd.rest] at AT
    rcases hp : pre (nats t) (d.cs.drop j) with _ | _
    · rw [hp] at AT
      go_wp2_with fail
      refine AT.mono ?_
      rintro e w1 ⟨rfl, hp1⟩
      have k3 := h3.pur hp1
      have PK := peek_any k3
      simp only [Sd.rest] at PK
      by_cases hj : j < d.cs.length
      · have hx := drop_cons d.cs j hj
        have d1 : (pk (d.cs.drop j) == -1) = false := by rw [hx]; simp [pk]
        have hs : untilT (nats t) (d.cs.drop j) = (untilT (nats t) (d.cs.drop (j + 1))).and fun a q => .ok (d.cs.getD j 0 :: a, q) := by
          rw [hx] at hp ⊢
          rw [untilT, hp]
          rfl
        have HS := Lib.hid (H.out)
        rw [hs] at HS
        have w1 : IntKind.i64.wrap ((j : Int) + 1) = (j : Int) + 1 := IntWalk.i64_in _ (by omega)
        clear H hx hs
        go_wp2_with fail
        refine PK.mono ?_
        rintro e w2 ⟨rfl, hp2⟩
        have k4 := k3.pur hp2
        have c1 := k4.c1
        have f1 := k4.f 1
        have k5 := k4.seti (j + 1) ((j : Int) + 1) (by omega)
        have e5 := k5.nat
        have e3 := h3.nat
        clear PK AT
        go_wp2
        go_roundw
        case rel =>
          refine ⟨j + 1, by omega, by omega, k5, ((h4.pur hp1).pur hp2).setCell (.inl (by simp)) _, Lib.hid ?_⟩
          rw [HS.out]
          have et : (d.cs.drop d.i).take (j + 1 - d.i) = (d.cs.drop d.i).take (j - d.i) ++ [d.cs.getD j 0] := by
            rw [show j + 1 - d.i = (j - d.i) + 1 by omega, List.take_succ_eq_append_getElem (by rw [List.length_drop]; omega)]
            congr 2
            rw [List.getElem_drop, List.getD_eq_getElem?_getD]
            simp only [show d.i + (j - d.i) = j by omega, List.getElem?_eq_getElem hj, Option.getD_some]
          rw [et]
          rcases untilT (nats t) (d.cs.drop (j + 1)) with x | ⟨x, q⟩
          · rfl
          · simp
        case measure => rw [e3, e5]; omega
      · have hx : d.cs.drop j = [] := List.drop_of_length_le (by omega)
        have d1 : (pk (d.cs.drop j) == -1) = true := by rw [hx]; rfl
        have HS := Lib.hid (show untilT (nats t) d.rest = .error (0, 21) by rw [H.out, hx]; rfl)
        clear H hx
        go_wp2_with fail
        refine PK.mono ?_
        rintro e w2 ⟨rfl, hp2⟩
        have k4 := k3.pur hp2
        have c1 := k4.c1
        go_wp2_with fail
        refine (fail_any k4 [p.s] j 21 (by omega)).mono ?_
        intro e w6 hf
        obtain ⟨b, rfl, hf2⟩ := id hf
        go_wp2
        refine ⟨rfl, ?_⟩
        rw [HS.out]
        simp only [Cuts]
        rw [show d.cs.length - 0 = j by omega]
        exact Flt.after ((h4.pur hp1).pur hp2) hf
    · rw [hp] at AT
      have hpl := pre_len hp
      have hN : (nats t).length = t.length := by simp [nats]
      rw [List.length_drop, hN] at hpl
      have HS : Hid (untilT (nats t) d.rest = .ok ((d.cs.drop d.i).take (j - d.i), d.cs.drop (j + t.length))) := by
        refine Lib.hid ?_
        rw [H.out, drop_cons d.cs j (by omega)]
        rw [drop_cons d.cs j (by omega)] at hp
        rw [untilT, hp, ← drop_cons d.cs j (by omega), hN, List.drop_drop]
        simp
      have w1 : IntKind.i64.wrap ((j : Int) + (t.length : Int)) = (j : Int) + (t.length : Int) := IntWalk.i64_in _ (by omega)
      have w2 : IntKind.i64.wrap (j : Int) = (j : Int) := IntWalk.i64_in _ (by omega)
      clear H
      go_wp2_with fail
      refine AT.mono ?_
      rintro e w2 ⟨rfl, hp1⟩
      have k3 := h3.pur hp1
      have c1 := k3.c1
      have f1 := k3.f 1
      have k5 := k3.seti (j + t.length) ((j : Int) + (t.length : Int)) (by omega)
      have C0 : ∀ x : PW (w2.setCell ⟨p.s, 1, none⟩ (.int .i64 ((j : Int) + (t.length : Int)))), x.to.cell? ⟨p.s, 0, none⟩ = some (.slice ca d.cs.length cc) := fun x => hcv ▸ (k5.pur x.pur).c0
      have C1 : ∀ x : PW (w2.setCell ⟨p.s, 1, none⟩ (.int .i64 ((j : Int) + (t.length : Int)))), x.to.cell? ⟨p.s, 1, none⟩ = some (.int .i64 ((j : Int) + (t.length : Int))) := fun x => by
        have := (k5.pur x.pur).c1
        rw [this]
        simp
      have b1 : (d.i : Int) ≤ (j : Int) := by omega
      have b2 : (j : Int) ≤ (cc : Int) := by omega
      have b3 : (0 : Int) ≤ (d.i : Int) := by omega
      clear AT
      go_wp2
      refine wp_region_pur (by kernel_rfl) (by kernel_rfl) ?_
      repeat (quiet_step (fail))
      refine wpQuiet_nil ?_
      intro wq hq
      go_wp2
      go_ret
      rw [HS.out]
      refine ⟨_, rfl, ⟨j + t.length, rfl, by omega, by omega, k5.pur hq, ((h4.pur hp1).setCell (.inl (by simp)) _).pur hq⟩, (k5.pur hq).part ca cc hcv d.i j j1 j2 _ _ (fun hij => by first | rfl | exact if_neg (by omega) | omega), fun g hg => ?_, ?_, fun c hc => List.mem_of_mem_take hc⟩
      · rw [hcv]
        rcases ca with _ | a
        · simp [Value.ownBlock] at hg
        · have ab : (a.add d.i).block = a.block := by unfold Addr.add; split <;> rfl
          by_cases hx : cc = d.i
          · simpa [Value.ownBlock, hx, ab] using hg
          · simpa [Value.ownBlock, hx, ab] using hg
      · rw [List.length_take, List.length_drop, List.length_drop, rest_len]
        omega
end Tk
end Go.Proofs.YtigfcchblfnnbaaGreatDoor
namespace Go.Proofs.YtigfcchblfnnbaaGreatDoor
open Go Go.RowKit
set_option linter.all false
namespace Tk
def set16 : List UInt8 := [48, 49, 50, 51, 52, 53, 54, 55, 56, 57, 97, 98, 99, 100, 101, 102]
theorem set16_ascii (n : Nat) (h : n < 16) : by8 set16 n < 128 := by
  have : ∀ n, n < 16 → by8 set16 n < 128 := by decide
  exact this n h
theorem index_hi (l : List UInt8) (c : UInt8) (h : ∀ b ∈ l, b.toNat < 128) (hc : 128 ≤ c.toNat) : Lib.indexByte l c = -1 := by
  induction l with
  | nil => rfl
  | cons b l ih =>
    have hb := h b (by simp)
    rw [Lib.indexByte, if_neg (by simp only [beq_iff_eq]; intro e; rw [e] at hb; omega), ih (fun b hb => h b (by simp [hb]))]
    rfl
theorem set16_all : ∀ b ∈ set16, b.toNat < 128 := by decide
set_option maxRecDepth 100000 in
set_option maxHeartbeats 4000000 in
theorem idx_hi (r : Int) (w : World) (h : r < 0 ∨ 128 ≤ r) (h0 : -1 ≤ r) (h1 : r ≤ 1114111) :
    Calls Tryz.prog 121 #[.string ⟨#[48, 49, 50, 51, 52, 53, 54, 55, 56, 57, 97, 98, 99, 100, 101, 102]⟩, .int .i32 r] w fun e w' => e = .returned (.int .i64 (-1)) ∧ Pur w w' := by
  by_cases hF : r = 65533
  · subst hF
    go_enter Tryz.func121, Tryz.ntmps121
    go_wp2
    go_loopw [176] (fun _ wr => ∃ n, n ≤ 16 ∧ wr = w.iter ⟨set16.toArray⟩ n) (fun _ wr => 17 - (match wr.heap[w.heap.size]? with | some (.stringIter _ n) => n | _ => 0))
    case atStart => exact ⟨0, by omega, rfl⟩
    case round =>
      obtain ⟨n, hn, rfl⟩ := hrel
      have hz : (⟨set16.toArray⟩ : ByteArray).size = 16 := rfl
      by_cases hlt : n < 16
      · have ha : ((⟨set16.toArray⟩ : ByteArray)[n]'(by rw [hz]; exact hlt)).toNat < 128 := by
          have e := set16_ascii n hlt
          unfold by8 at e
          rw [List.getD_eq_getElem?_getD, List.getElem?_eq_getElem (show n < set16.length from hlt), Option.getD_some] at e
          exact e
        have RN := fun ty => run_next_ascii (P := Tryz.prog) w ⟨set16.toArray⟩ n ty (by rw [hz]; exact hlt) ha
        generalize ((⟨set16.toArray⟩ : ByteArray)[n]'(by rw [hz]; exact hlt)).toNat = y at *
        have d1 : ((y : Int) == 65533) = false := by simp; omega
        go_wp2
        go_roundw
        case rel => exact ⟨n + 1, by omega, rfl⟩
        case measure => rw [World.iter_heap, World.iter_heap]; simp only; omega
      · obtain rfl : n = 16 := by omega
        have RN := fun ty => run_next_end (P := Tryz.prog) w ⟨set16.toArray⟩ 16 ty (by rw [hz]; omega)
        go_wp2
        go_ret
        exact ⟨rfl, (Pur.refl w).alloc _⟩
  · have d0 : (r == 65533) = false := by simpa using hF
    have hlo : ¬ (0 ≤ r ∧ r < 128) := by omega
    have VR := fun w => Tryz.utf8_ValidRune r w
    have b1 : (decide ((0 : Int) ≤ r) && decide (r < 128)) = false := by
      rcases h with h | h
      · simp; omega
      · simp; omega
    obtain ⟨p1, hp1⟩ : ∃ b, decide ((0 : Int) ≤ r) = b := ⟨_, rfl⟩
    obtain ⟨p2, hp2⟩ : ∃ b, decide (r < 128) = b := ⟨_, rfl⟩
    rw [hp1, hp2] at b1
    by_cases hv : Lib.validRune r = true
    · rw [hv] at VR
      have hval : Utf8.valid r = true := by
        simp only [Lib.validRune, decide_eq_true_eq] at hv
        simp only [Utf8.valid, Bool.or_eq_true, Bool.and_eq_true, decide_eq_true_eq]
        omega
      have h128 : 128 ≤ r := by
        simp only [Lib.validRune, decide_eq_true_eq] at hv
        omega
      obtain ⟨e1, e2, e3⟩ := encode_facts r hval h128
      obtain ⟨l, hl⟩ : ∃ l : List UInt8, Utf8.encode r = ⟨l.toArray⟩ := ⟨(Utf8.encode r).data.toList, by simp⟩
      rw [hl] at e1 e2 e3
      have hz : (⟨l.toArray⟩ : ByteArray).size = l.length := by show l.toArray.size = _; simp
      rw [hz] at e1 e2
      obtain ⟨x, hx, hx8⟩ : ∃ x, by8 l (l.length - 1) = x ∧ 128 ≤ x := by
        refine ⟨_, rfl, ?_⟩
        have h3 := e3 (by rw [hz]; omega)
        unfold by8
        rw [List.getD_eq_getElem?_getD, List.getElem?_eq_getElem (by omega)]
        simp only [hz] at h3
        exact h3
      have hxl : x < 256 := hx ▸ by8_lt l _
      obtain ⟨m, hm⟩ : ∃ m, l.length = m + 1 := ⟨l.length - 1, by omega⟩
      rw [hm] at hx e1 e2
      simp only [Nat.add_sub_cancel] at hx
      have hs1 := set16_ascii m (by omega)
      have hs2 : ∀ b ∈ sub set16 (m + 1) 16, b.toNat < 128 := fun b hb => set16_all b (List.mem_of_mem_drop (List.mem_of_mem_take hb))
      have IB := fun w => Tryz.strings_IndexByte ⟨(sub set16 (m + 1) 16).toArray⟩ (x : Int) w
      have hib : Lib.indexByte (sub set16 (m + 1) 16) ((x : Int).toNat.toUInt8) = -1 := index_hi _ _ hs2 (by simp; omega)
      have hlen : (l.length : Int) = (m : Int) + 1 := by omega
      have n1 : ((m : Int) + 1 - 1) = (m : Int) := by omega
      have n2 : (m : Int) < 16 := by omega
      have n3 : ((m : Int) + 1).toNat = m + 1 := by omega
      have n4 : (m : Int) + 1 ≤ 16 := by omega
      have n5 : (0 : Int) ≤ (m : Int) + 1 := by omega
      have n6 : m + 1 ≤ 16 := by omega
      have n7 : m ≤ 15 := by omega
      have n8 : m < l.length := by omega
      have n9 : (m : Int) < (l.length : Int) := by omega
      have n10 : (m : Int) < (m : Int) + 1 := by omega
      have d5 : ((by8 set16 m : Int) != (x : Int)) = true := by simp; omega
      have ws : IntKind.i64.wrap (m : Int) = (m : Int) := IntWalk.i64_in _ (by omega)
      have ws2 : IntKind.i64.wrap ((m : Int) + 1) = (m : Int) + 1 := IntWalk.i64_in _ (by omega)
      clear e3 hval
      unfold set16 at IB hib d5
      rw [hib] at IB
      replace IB := fun w => (IB w).mono fun _ _ ⟨a, b⟩ => And.intro a b.symm
      rcases p1 with _ | _ <;> rcases p2 with _ | _ <;> (try (exfalso; simp at b1; done))
      all_goals
        go_enter Tryz.func121, Tryz.ntmps121
        go_wp2_with fail
        refine (VR _).mono ?_
        rintro e w1 ⟨rfl, rfl⟩
        go_wp2
        go_step3
        go_wp2
        refine wp_loop_rounds 1 ?_
        rw [rounds_succ]
        go_wp2
        go_step3
        go_wp2
        go_region
        go_wp2
        refine wp_region_pur (by kernel_rfl) (by kernel_rfl) ?_
        repeat (quiet_step ((go_at_call 147; with_reducible exact quiet_eq (IB _))))
        refine wpQuiet_nil ?_
        intro wq hq
        go_wp2
        simp only [Exit.inBlock, Exit.then, Exit.noGoto_ret]
        refine bodyPost_ret (results_tmp rfl _ _ _) rfl ?_
        exact ⟨rfl, (Pur.refl _).drew.trans hq⟩
    · simp only [Bool.not_eq_true] at hv
      rw [hv] at VR
      rcases p1 with _ | _ <;> rcases p2 with _ | _ <;> (try (exfalso; simp at b1; done))
      all_goals
        go_enter Tryz.func121, Tryz.ntmps121
        go_wp2_with fail
        refine (VR _).mono ?_
        rintro e w1 ⟨rfl, rfl⟩
        go_wp2
        go_ret
        exact ⟨rfl, Pur.refl _⟩
/-- how a reference's number ends -/
def Nums (p : Pl) (d : Sd) (w : World) (r : Option (Nat × Cs)) (e : Ending) (w' : World) : Prop := match r with
  | some (v, q) => e = .returned (.int .i64 (v : Int)) ∧ Went p d w q w'
  | none => e = .returned (.int .i64 (-1)) ∧ ∃ q, Went p d w q w'
theorem i64_or_nat (a b : Nat) (ha : a < 9223372036854775808) (hb : b < 9223372036854775808) : bits .or .i64 (a : Int) (b : Int) = ((a ||| b : Nat) : Int) := by
  have hx : a ||| b < 2 ^ 63 := Nat.or_lt_two_pow (by omega) (by omega)
  show IntKind.i64.wrap ((BitVec.ofInt 64 (a : Int) ||| BitVec.ofInt 64 (b : Int)).toNat : Int) = _
  have e : ∀ a : Nat, a < 9223372036854775808 → (BitVec.ofInt 64 (a : Int)).toNat = a := fun a ha => by
    rw [BitVec.ofInt_natCast, BitVec.toNat_ofNat]; exact Nat.mod_eq_of_lt (by omega)
  rw [BitVec.toNat_or, e a ha, e b hb]
  exact IntWalk.i64_in _ (by omega)
theorem or32 (c : Nat) (h : c ≤ 1114111) : bits .or .i64 (c : Int) 32 = ((c ||| 32 : Nat) : Int) := by
  exact i64_or_nat c 32 (by omega) (by omega)
theorem lor32_lt (c : Nat) (h : c < 128) : c ||| 32 < 128 := Nat.or_lt_two_pow (n := 7) h (by decide)
theorem lor32_ge (c : Nat) (h : 128 ≤ c) : 128 ≤ c ||| 32 := Nat.le_trans h Nat.left_le_or
theorem lor32_le (c : Nat) (h : c ≤ 1114111) : c ||| 32 ≤ 1114111 := by
  have h1 : (c ||| 32) / 64 = c / 64 := by
    have := Nat.shiftRight_or_distrib (a := c) (b := 32) (i := 6)
    simpa [Nat.shiftRight_eq_div_pow] using this
  omega
/-- what the digit's search and the test at '0' .. '9' come to, below 128 -/
def dOf (c : Nat) : Int := if 48 ≤ c ∧ c ≤ 57 then (c : Int) - 48 else Lib.indexByte set16 ((c ||| 32 : Nat).toUInt8)
theorem dOf_tab : ∀ c, c < 128 → allowed c = true → (dOf c = -1 ∧ dig c = 99) ∨ (0 ≤ dOf c ∧ dOf c = (dig c : Nat)) := by decide +kernel
end Tk
end Go.Proofs.YtigfcchblfnnbaaGreatDoor
