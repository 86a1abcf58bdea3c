/- The document's heap, for its shape alone: Right. The document's heap, for its shape alone: Array; Put behind an array's last item. Layer 9: the statement's big: texts that are too long to go through. Layer 9: the statement's two heaps: made, and led through the steps. -/
import Derived.Test.YtapgibcdbggpkaaGreatDoorRaA
import Derived.Test.YtapgibcdbggpkaaGreatDoorCvE
import Derived.Test.YtapgibcdbggpkaaGreatDoorHpB
import Derived.Test.YtapgibcdbggpkaaGreatDoorLfB
import Derived.Test.YtapgibcdbggpkaaGreatDoorCvB
namespace Go.Proofs.YtapgibcdbggpkaaGreatDoor
open Go Go.RowKit
set_option linter.all false
namespace Cv
/-- what Right says -/
def rrA (r : Rf) (v : Va) : Bool := if v.kind ≤ 4 then rr v else if v.kind = 5 then decide (v.num = 0) && (v.text == []) && (r.obj v.ref).isSome else if v.kind = 6 then decide (v.num = 0) && (v.text == []) && decide (0 ≤ v.ref) else false
set_option maxRecDepth 100000 in
set_option maxHeartbeats 16000000 in
/-- Right, for every value -/
theorem rright_all (r : Rf) (v : Va) (hv : v.wf) (w : World) (h : RfAt w r) : Calls Tryz.prog 6 #[.pointer (some ⟨r.g, 0, none⟩), v.v] w fun e w' => e = .returned (.bool (rrA r v)) ∧ Pur w w' := by
  by_cases h4 : v.kind ≤ 4
  · have := rright_any (.pointer (some ⟨r.g, 0, none⟩)) v h4 hv w
    rw [show rr v = rrA r v by unfold rrA; rw [if_pos h4]] at this
    exact this
  have S := fun w => rsame0 v.num hv.1 w
  have hl := hv.2
  obtain ⟨R, hR⟩ : ∃ b, rrA r v = b := ⟨_, rfl⟩
  rw [hR]
  unfold rrA at hR
  rw [if_neg h4] at hR
  obtain ⟨k, n, t, rr⟩ := v
  simp only [Va.v, Va.cells] at S ⊢
  simp only at h4 hl hR
  have P := (Pur.refl w).alloc (.cells #[.int .i64 k, .float .f64 n, .string ⟨t.toArray⟩, .int .i64 rr] 25)
  have H := fun w1 (hp : Pur w w1) => has_any r rr w1 (h.pur hp)
  obtain ⟨b0, hb0⟩ : ∃ b, decide (n = 0) = b := ⟨_, rfl⟩
  obtain ⟨b2, hb2⟩ : ∃ b, (t == []) = b := ⟨_, rfl⟩
  obtain ⟨b3, hb3⟩ : ∃ b, (r.obj rr).isSome = b := ⟨_, rfl⟩
  obtain ⟨b4, hb4⟩ : ∃ b, decide (0 ≤ rr) = b := ⟨_, rfl⟩
  have e2 : t.isEmpty = b2 := by rw [← hb2]; cases t <;> rfl
  rw [hb0] at S
  rw [hb3] at H
  rw [hb0, hb2, hb3, hb4] at hR
  clear h hv hb0 hb3
  have q0 : (k == 0) = false := beq_eq_false_iff_ne.2 (by omega)
  have q1 : (k == 1) = false := beq_eq_false_iff_ne.2 (by omega)
  have q2 : (k == 2) = false := beq_eq_false_iff_ne.2 (by omega)
  have q3 : (k == 3) = false := beq_eq_false_iff_ne.2 (by omega)
  have q4 : (k == 4) = false := beq_eq_false_iff_ne.2 (by omega)
  by_cases k5 : k = 5
  · subst k5
    have HR := Lib.hid (show (b0 && b2 && b3) = R from hR)
    clear q0 q1 q2 q3 q4 hb4 hR
    cases b0 <;> cases b2
    all_goals
      go_enter Tryz.func6, Tryz.ntmps6
      go_wp2_with fail
      refine (S _).mono ?_
      rintro e w' ⟨rfl, rfl⟩
      have H1 := H _ P
      go_wp2_with (refine H1.mono ?_; rintro e w' ⟨rfl, rfl⟩)
      go_ret
      exact ⟨by rw [← HR.out]; rfl, P⟩
  by_cases k6 : k = 6
  · subst k6
    have HR := Lib.hid (show (b0 && b2 && b4) = R from hR)
    clear q0 q1 q2 q3 q4 H hR
    cases b0 <;> cases b2 <;> cases b4
    all_goals
      go_enter Tryz.func6, Tryz.ntmps6
      go_wp2_with fail
      refine (S _).mono ?_
      rintro e w' ⟨rfl, rfl⟩
      go_wp2
      go_ret
      exact ⟨by rw [← HR.out]; rfl, P⟩
  · have q5 : (k == 5) = false := beq_eq_false_iff_ne.2 k5
    have q6 : (k == 6) = false := beq_eq_false_iff_ne.2 k6
    have HR := Lib.hid (show false = R by rw [← hR, if_neg k5, if_neg k6])
    clear H hb4 hb2 e2 h4 k5 k6 hR
    go_enter Tryz.func6, Tryz.ntmps6
    go_wp2_with fail
    refine (S _).mono ?_
    rintro e w' ⟨rfl, rfl⟩
    go_wp2
    go_ret
    exact ⟨by rw [← HR.out]; rfl, P⟩
end Cv
end Go.Proofs.YtapgibcdbggpkaaGreatDoor
namespace Go.Proofs.YtapgibcdbggpkaaGreatDoor
open Go Go.RowKit
set_option linter.all false
namespace Cv
set_option maxRecDepth 100000 in
set_option maxHeartbeats 8000000 in
theorem rarray_any (r : Rf) (v : Value) (vs : List Va) (w : World) (h : RfAt w r) (hv : VRead2 w v vs) (hwf : ∀ x ∈ vs, x.wf) (hn : vs.length ≤ 1000000) :
    Calls Tryz.prog 22 #[.pointer (some ⟨r.g, 0, none⟩), v] w fun e w' => (∃ x y : Int, e = .returned (.tuple #[.int .i64 x, .int .i64 y])) ∧ ∃ r', RfAt w' r' ∧ RStep w r w' r' := by
  obtain ⟨i0, hi, hz⟩ := Option.map_eq_some_iff.1 va_info
  simp only [Prod.mk.injEq] at hz
  obtain ⟨hz0, hz1, hz2⟩ := hz
  obtain ⟨z0, hz0, hzs⟩ := Option.map_eq_some_iff.1 hz0
  have FE := fun wr (hp : Pur w wr) => (hv.pur hp).feeds
  obtain ⟨a, c, rfl, hC⟩ := hv.each
  have h1v : ∀ u ∈ vs.flatMap Va.cells, u.oneCell' = true := fun u hu => by
    obtain ⟨x, -, hx⟩ := List.mem_flatMap.1 hu
    simp only [Va.cells, List.mem_cons, List.not_mem_nil, or_false] at hx
    rcases hx with rfl | rfl | rfl | rfl <;> rfl
  go_enter Tryz.func22, Tryz.ntmps22
  go_wp2
  go_loopw [6] (fun i wr => ∃ n : Nat, n ≤ vs.length ∧ i = .int .i64 n ∧ Pur w wr) (fun i _ => vs.length + 1 - (intOf i).toNat)
  case atStart => exact ⟨0, by omega, rfl, Pur.refl w⟩
  case round =>
    obtain ⟨n, hnl, rfl, hpr⟩ := hrel
    by_cases hlt : n < vs.length
    · have hlt' : (n : Int) < vs.length := by omega
      have hn0 : (0 : Int) ≤ n := by omega
      have d1 : decide ((n : Int) < vs.length) = true := decide_eq_true hlt'
      obtain ⟨x, hx⟩ : ∃ x, vs[n]? = some x := ⟨_, List.getElem?_eq_getElem hlt⟩
      have hxw := hwf x (List.mem_of_getElem? hx)
      obtain ⟨b, o, ha, hb, hcell⟩ := hC n x hx
      have k0 := (hpr.cell (p := ⟨b, o + n * 4 + 0, none⟩) hb).trans (hcell 0 _ rfl)
      have k1 := (hpr.cell (p := ⟨b, o + n * 4 + 1, none⟩) hb).trans (hcell 1 _ rfl)
      have k2 := (hpr.cell (p := ⟨b, o + n * 4 + 2, none⟩) hb).trans (hcell 2 _ rfl)
      have k3 := (hpr.cell (p := ⟨b, o + n * 4 + 3, none⟩) hb).trans (hcell 3 _ rfl)
      rw [Nat.add_zero] at k0
      subst ha
      have RT := rright_all r x hxw wr (h.pur hpr)
      have hfin : ∀ wx, Pur w wx → ∃ r', RfAt wx r' ∧ RStep w r wx r' := fun wx hp => ⟨r, h.pur hp, RStep.pur hp⟩
      generalize rrA r x = bx at RT
      obtain ⟨kk, nn, tt, rr⟩ := x
      simp only [Va.v, Va.cells] at RT
      clear hcell hC hwf hxw FE h1v hz0 hz1 hz2 hzs hi hx
      go_wp2_with fail
      refine RT.mono ?_
      rintro e w2 ⟨rfl, h2⟩
      have hp2 := hpr.trans h2
      have hfin2 := hfin _ hp2
      clear k0 k1 k2 k3 RT h2 hpr hfin
      rcases bx with _ | _
      · go_wp2
        go_ret2
        exact ⟨⟨_, _, rfl⟩, hfin2⟩
      · go_wp2
        go_roundw
        case rel => exact ⟨n + 1, by omega, by go_num, hp2⟩
        case measure => simp [intOf]; omega
    · obtain rfl : n = vs.length := by omega
      have d1 : decide ((vs.length : Int) < vs.length) = false := decide_eq_false (by omega)
      have hm := World.ownsRow_made (base := wr.heap.size) (e := 25) (size := 4) wr #[] 0 (Nat.le_refl _) (by decide) rfl
      obtain ⟨a', c', e1, hfe⟩ := FE _ (hpr.alloc (.cells #[] 25))
      simp only [Value.slice.injEq, true_and] at e1
      obtain ⟨rfl, rfl⟩ := e1
      have HM := Lib.hid hm
      have HFe := Lib.hid hfe
      have wr1 : IntKind.i64.wrap ((vs.length : Int) + 1) = vs.length + 1 := IntWalk.i64_in _ (by omega)
      clear hm hfe FE hC hwf
      go_wp2_with (at_builtin; refine wpList_append_feeds rfl _ _ 42 rfl wr.heap.size 25 i0 z0 4 40 Tryz.underlying42 hi hz0 hz1 hz2 hzs (by decide) _ 0 [] rfl HM.out _ _ _ (vs.flatMap Va.cells) rfl HFe.out h1v ?c3 ?c4 ((Pur.refl wr).alloc _).size ?_)
      case c3 => unfold maxLen; omega
      case c4 => omega
      intro v5 w5 hown5 hgrow
      have hp5 : Pur wr w5 := ((Pur.refl wr).alloc _).grown hgrow (by simp) (fun k hk => by cases hk; exact Nat.le_refl _)
      (try rw [Nat.zero_add] at hown5); (try rw [List.nil_append] at hown5)
      obtain ⟨a5, c5, e5⟩ := row_shape hown5
      subst e5
      have hpw := hpr.trans hp5
      have A := radd_any r ⟨2, -1, 0, 0, 0, .slice a5 vs.length c5, vs⟩ (vs.length + 1) w5 (h.pur hpw) (row_low hown5 (Nat.zero_le _)) (fun b hb hm => by
        have h3 := (hown5.lt b hb).1
        have h4 := h.lt b hm
        have h5 := hpr.size
        omega) (by omega) (by omega) (by simp only; omega)
      simp only at A
      have hbl := hown5.lt
      have hrs := hpr.size
      clear hgrow HM HFe hown5
      go_wp2_with fail
      refine A.mono ?_
      rintro e w' ⟨⟨x, y, rfl⟩, r', k1, k2, k3, k4⟩
      have HF := Lib.hid (And.intro k1 (RStep.mk (w := w) (r := r) ((Chg.of_pur hpw).trans k3) k2 (fun b hb => by
        rcases k4 b hb with e | e | e
        · exact .inl e
        · have := (hbl b e).1
          exact .inr (by omega)
        · have := hpw.size
          exact .inr (by omega))))
      clear k1 k2 k3 k4 A hbl
      go_wp2
      go_ret2
      exact ⟨⟨_, _, rfl⟩, _, HF.out⟩
theorem rlength_key (w : World) : Calls Tryz.prog 53 #[] w fun e w' => e = .returned (.string ⟨#[0, 108, 0, 101, 0, 110, 0, 103, 0, 116, 0, 104]⟩) ∧ Pur w w' := by
  have O := fun w => of_any [108, 101, 110, 103, 116, 104] w (by decide)
  rw [show wide8 [108, 101, 110, 103, 116, 104] = [0, 108, 0, 101, 0, 110, 0, 103, 0, 116, 0, 104] by decide +kernel] at O
  go_enter Tryz.func53, Tryz.ntmps53
  go_wp2_with fail
  refine (O _).mono ?_
  rintro e w1 ⟨rfl, h1⟩
  go_wp2
  go_ret
  exact ⟨rfl, h1⟩
theorem index_len : index lenKey = none := by decide +kernel
theorem key_facts (m : Nat) (hm : m ≤ 2000) : index (keyOf (m : Int)) = some m ∧ (keyOf (m : Int) == lenKey) = false ∧ (keyOf (m : Int)).length ≤ 1000000 := by
  have h1 := index_key (m : Int) (by omega) (by omega)
  rw [if_pos ⟨by omega, by omega⟩] at h1
  refine ⟨by rw [h1]; simp, ?_, ?_⟩
  · refine beq_eq_false_iff_ne.2 fun e => ?_
    rw [e, index_len] at h1
    cases h1
  · unfold keyOf
    rw [wide8_len]
    have := itoa_short (m : Int) (by omega) (by omega)
    omega
set_option maxRecDepth 100000 in
set_option maxHeartbeats 16000000 in
theorem rput_any (r : Rf) (i : Nat) (o : RO) (v : Va) (w : World) (h : RfAt w r) (ho : r.os[i]? = some o) (hk : o.kind = 2) (hv : v.wf) :
    Calls Tryz.prog 31 #[.pointer (some ⟨r.g, 0, none⟩), .int .i64 i, .string ⟨(keyOf (o.vs.length : Int)).toArray⟩, v.v] w fun e w' => (∃ x : Int, e = .returned (.int .i64 x)) ∧ ∃ r', RfAt w' r' ∧ RStep w r w' r' := by
  have hroom := h.room i o ho
  have hlo := h.lo
  have hsh := h.short
  have hil := (List.getElem?_eq_some_iff.1 ho).1
  obtain ⟨q1, q2, q3⟩ := key_facts o.vs.length (by omega)
  have IX := fun w => rindex_any (keyOf (o.vs.length : Int)) w (by omega)
  rw [q1] at IX
  simp only [rx] at IX
  unfold lenKey at q2
  generalize keyOf (o.vs.length : Int) = K at *
  have P1 : Pur w (w.alloc (.cells v.cells.toArray 25)) := (Pur.refl w).alloc _
  have V1 := bk_new w (.cells v.cells.toArray 25)
  have hob : r.obj (i : Int) = some o := by unfold Rf.obj; rw [if_neg (by omega)]; simpa using ho
  have HS := has_any r (i : Int) _ (h.pur P1)
  rw [hob] at HS
  have RT := rright_all r v hv _ (h.pur P1)
  generalize rrA r v = q at RT
  have LN := fun w => rlength_key w
  have hfin : ∀ w', Pur (w.alloc (.cells v.cells.toArray 25)) w' → ∃ r', RfAt w' r' ∧ RStep w r w' r' := fun w' hp => ⟨r, h.pur (P1.trans hp), RStep.pur (P1.trans hp)⟩
  have FX : ∀ w', Pur (w.alloc (.cells v.cells.toArray 25)) w' → ∃ G c ia ic, r.ov = .slice (some ⟨G, 0, none⟩) r.os.length c ∧ o.iv = .slice ia o.vs.length ic ∧ w'.cell? ⟨r.g, 0, none⟩ = some (.slice (some ⟨G, 0, none⟩) r.os.length c) ∧ w'.cell? ⟨G, i * 7, none⟩ = some (.int .i64 2) ∧ w'.cell? ⟨G, i * 7 + 6, none⟩ = some (.slice ia o.vs.length ic) ∧ w'.heap[w.heap.size]? = some (.cells v.cells.toArray 25 (0, 0)) := fun w' hp => by
    have H := h.pur (P1.trans hp)
    obtain ⟨a, c, hov, hC⟩ := H.rows
    obtain ⟨G, rfl, hkk⟩ := hC i o ho
    obtain ⟨ia, ic, hiv⟩ := row_shape (H.each i o ho)
    have c0 := H.cell0
    rw [hov] at c0
    exact ⟨G, c, ia, ic, hov, hiv, c0, by have := hkk 0 _ rfl; rw [hk] at this; exact this, by have := hkk 6 _ rfl; rw [hiv] at this; exact this, bk_pur V1 hp⟩
  have RZ := fun (w' : World) (hp : Pur (w.alloc (.cells v.cells.toArray 25)) w') => rresize_any r i o w' (h.pur (P1.trans hp)) ho
  have V4 : ∀ w' w5 r5, Pur (w.alloc (.cells v.cells.toArray 25)) w' → RStep w' r w5 r5 → w5.heap[w.heap.size]? = some (.cells v.cells.toArray 25 (0, 0)) := fun w' w5 r5 hp hs =>
    (hs.chg.block _ (bk_lt (bk_pur V1 hp)) (fun hm => by have := h.lt _ hm; omega)).trans (bk_pur V1 hp)
  have hi1 : (0 : Int) ≤ i := by omega
  have hi2 : (i : Int) < r.os.length := by omega
  have hm1 : decide ((0 : Int) ≤ (o.vs.length : Int)) = true := decide_eq_true (by omega)
  have hm2 : decide ((o.vs.length : Int) ≤ (o.vs.length : Int)) = true := decide_eq_true (by omega)
  have wr1 : IntKind.i64.wrap ((o.vs.length : Int) + 1) = o.vs.length + 1 := IntWalk.i64_in _ (by omega)
  obtain ⟨vk, vn, vt, vr⟩ := v
  simp only [Va.v, Va.cells] at *
  have v10 := bk_cell V1 0 _ rfl
  have v11 := bk_cell V1 1 _ rfl
  have v12 := bk_cell V1 2 _ rfl
  have v13 := bk_cell V1 3 _ rfl
  go_enter Tryz.func31, Tryz.ntmps31
  go_wp2_with fail
  refine HS.mono ?_
  rintro e w' ⟨rfl, rfl⟩
  clear HS
  go_wp2_with fail
  refine RT.mono ?_
  rintro e w2 ⟨rfl, h2⟩
  clear RT v10 v11 v12 v13
  cases q with
  | false =>
    have HF := hfin _ h2
    clear IX LN FX RZ V4 h hfin
    go_wp2
    go_ret
    exact ⟨⟨_, rfl⟩, HF⟩
  | true =>
  obtain ⟨G, c, ia, ic, hov, hiv, g0, g1, g2, g3⟩ := FX _ h2
  go_wp2_with fail
  refine (LN _).mono ?_
  rintro e w3 ⟨rfl, h3⟩
  have h23 := h2.trans h3
  clear LN g0 g1 g2 g3 h2 h3
  go_wp2_with fail
  refine (IX _).mono ?_
  rintro e w4 ⟨rfl, h4⟩
  have h24 := h23.trans h4
  obtain ⟨G', c', ia', ic', e1, e2, g0, g1, g2, g3⟩ := FX _ h24
  rw [hov] at e1
  simp only [Value.slice.injEq, true_and, Option.some.injEq, Addr.mk.injEq, and_true] at e1
  obtain ⟨rfl, rfl⟩ := e1
  rw [hiv] at e2
  simp only [Value.slice.injEq, true_and] at e2
  obtain ⟨rfl, rfl⟩ := e2
  have RZ := RZ _ h24
  clear IX h23 h4 FX
  go_wp2_with fail
  refine RZ.mono ?_
  rintro e w5 (⟨rfl, h5⟩ | ⟨rfl, v', R5, S5⟩)
  · have HF := hfin _ (h24.trans h5)
    clear RZ V4 h hfin g0 g1 g2 g3
    go_wp2
    go_ret
    exact ⟨⟨_, rfl⟩, HF⟩
  · have V5 := V4 _ _ _ h24 S5
    have ho5 : (r.os.set i { o with iv := v', vs := o.vs ++ [Va.zero] })[i]? = some { o with iv := v', vs := o.vs ++ [Va.zero] } := List.getElem?_set_self hil
    have hl5 : (o.vs ++ [Va.zero]).length = o.vs.length + 1 := by simp
    have E5 := R5.each i _ ho5
    simp only at E5
    rw [hl5] at E5
    obtain ⟨g5, cap5, hv5⟩ := row_some E5 (by omega)
    subst hv5
    obtain ⟨a6, c6, hov6, hC6⟩ := R5.rows
    simp only at hov6 hC6
    rw [hov, List.length_set] at hov6
    simp only [Value.slice.injEq, true_and] at hov6
    obtain ⟨rfl, rfl⟩ := hov6
    have Q0 : ∀ y : PW w5, y.to.cell? ⟨r.g, 0, none⟩ = some (.slice (some ⟨G, 0, none⟩) r.os.length c) := fun y => by
      have := (R5.pur y.pur).cell0
      simp only at this
      rw [hov] at this
      exact this
    have Q6 : ∀ y : PW w5, y.to.cell? ⟨G, i * 7 + 6, none⟩ = some (.slice (some ⟨g5, 0, none⟩) (o.vs.length + 1) cap5) := fun y => by
      obtain ⟨a7, c7, hov7, hC7⟩ := (R5.pur y.pur).rows
      simp only at hov7 hC7
      rw [hov, List.length_set] at hov7
      simp only [Value.slice.injEq, true_and] at hov7
      obtain ⟨rfl, rfl⟩ := hov7
      obtain ⟨G7, e7, k7⟩ := hC7 i _ ho5
      simp only [Option.some.injEq, Addr.mk.injEq, and_true] at e7
      subst e7
      exact k7 6 _ rfl
    have Z0 : ∀ y : PW w5, y.to.cell? ⟨w.heap.size, 0, none⟩ = some (.int .i64 vk) := fun y => bk_cell (bk_pur V5 y.pur) 0 _ rfl
    have Z1 : ∀ y : PW w5, y.to.cell? ⟨w.heap.size, 1, none⟩ = some (.float .f64 vn) := fun y => bk_cell (bk_pur V5 y.pur) 1 _ rfl
    have Z2 : ∀ y : PW w5, y.to.cell? ⟨w.heap.size, 2, none⟩ = some (.string ⟨vt.toArray⟩) := fun y => bk_cell (bk_pur V5 y.pur) 2 _ rfl
    have Z3 : ∀ y : PW w5, y.to.cell? ⟨w.heap.size, 3, none⟩ = some (.int .i64 vr) := fun y => bk_cell (bk_pur V5 y.pur) 3 _ rfl
    have ST : ∀ w6, Pur w5 w6 → _ := fun w6 h6 => (R5.pur h6).item ho5 (g2 := g5) (cap := cap5) (m := o.vs.length) (by simp only; rw [hl5]) (by simp only; rw [hl5]; omega) ⟨vk, vn, vt, vr⟩
    have PS := RStep.pur (r := r) (P1.trans h24)
    have hm3 : (o.vs.length : Int) < o.vs.length + 1 := by omega
    clear RZ V4 h hfin g0 g1 g2 g3 E5 hC6 V5 R5
    go_wp2_with fail
    refine wp_region_pur_tail 10 (by kernel_rfl) (by kernel_rfl) ?_
    simp only [List.take_succ_cons, List.take_zero, List.drop_succ_cons, List.drop_zero]
    repeat (go_big_quiet_step (fail))
    refine wpQuiet_nil ?_
    intro w6 h6
    obtain ⟨⟨f0, u0, c0⟩, ⟨f1, u1, c1⟩, ⟨f2, u2, c2⟩, ⟨f3, u3, c3⟩, r6, H6, S6⟩ := ST _ h6
    have HF := Lib.hid (And.intro H6 (PS.trans (S5.trans ((RStep.pur h6).trans S6))))
    unfold put4 at HF
    clear Q0 Q6 Z0 Z1 Z2 Z3 ST S5 S6 PS H6
    go_wp2
    go_ret
    exact ⟨⟨_, rfl⟩, _, HF.out⟩
end Cv
end Go.Proofs.YtapgibcdbggpkaaGreatDoor
namespace Go.Proofs.YtapgibcdbggpkaaGreatDoor
open Go Go.RowKit
set_option linter.all false
namespace Cv
def lenSum (vs : List Va) : Nat := (vs.map fun x => min 40000 x.text.length).sum
def allSum (cs : List Sp) : Nat := (cs.map fun c => lenSum c.items).sum
def bigB (cs : List Sp) (a b : Va) : Bool := decide (40000 ≤ a.text.length + b.text.length + allSum cs)
theorem lenSum_step {vs : List Va} {k : Nat} {x : Va} (h : vs[k]? = some x) : lenSum (vs.take (k + 1)) = lenSum (vs.take k) + min 40000 x.text.length := by
  unfold lenSum
  rw [List.take_add_one, h, List.map_append, List.sum_append]
  simp
theorem allSum_step {cs : List Sp} {i : Nat} {c : Sp} (h : cs[i]? = some c) : allSum (cs.take (i + 1)) = allSum (cs.take i) + lenSum c.items := by
  unfold allSum
  rw [List.take_add_one, h, List.map_append, List.sum_append]
  simp
theorem lenSum_le (vs : List Va) (k : Nat) : lenSum (vs.take k) ≤ lenSum vs := by
  have h := congrArg lenSum (List.take_append_drop k vs)
  have e : lenSum (vs.take k ++ vs.drop k) = lenSum (vs.take k) + lenSum (vs.drop k) := by simp only [lenSum, List.map_append, List.sum_append]
  omega
theorem allSum_le (cs : List Sp) (k : Nat) : allSum (cs.take k) ≤ allSum cs := by
  have h := congrArg allSum (List.take_append_drop k cs)
  have e : allSum (cs.take k ++ cs.drop k) = allSum (cs.take k) + allSum (cs.drop k) := by simp only [allSum, List.map_append, List.sum_append]
  omega
set_option maxRecDepth 100000 in
set_option maxHeartbeats 16000000 in
theorem big_any (v : Value) (cs : List Sp) (a b : Va) (w : World) (h : LRead 3 Sp.cells w v cs) (hf : ∀ c ∈ cs, SFine w c) (hn : cs.length ≤ 1000000000) (ha : a.wf) (hb : b.wf) :
    Calls Tryz.prog 7 #[v, a.v, b.v] w fun e w' => e = .returned (.bool (bigB cs a b)) ∧ Pur w w' := by
  obtain ⟨sa, sc, rfl, hC⟩ := h
  obtain ⟨R, hR⟩ : ∃ R, bigB cs a b = R := ⟨_, rfl⟩
  rw [hR]
  unfold bigB at hR
  have hla := ha.2
  have hlb := hb.2
  obtain ⟨B, hB⟩ : ∃ B, a.text.length + b.text.length = B := ⟨_, rfl⟩
  obtain ⟨ak, an, at', ar⟩ := a
  obtain ⟨bk, bn, bt, br⟩ := b
  simp only [Va.v, Va.cells] at hla hlb hB hR ⊢
  rw [hB] at hR
  have P0 : Pur w ((w.alloc (.cells #[.int .i64 ak, .float .f64 an, .string ⟨at'.toArray⟩, .int .i64 ar] 25)).alloc (.cells #[.int .i64 bk, .float .f64 bn, .string ⟨bt.toArray⟩, .int .i64 br] 25)) := ((Pur.refl w).alloc _).alloc _
  have wr1 : IntKind.i64.wrap ((at'.length : Int) + bt.length) = B := by rw [IntWalk.i64_in _ (by omega)]; omega
  have HR := Lib.hid hR
  clear hR ha hb
  go_enter Tryz.func7, Tryz.ntmps7
  go_wp2_with fail
  go_loopw [7, 8] (fun nv iv wr => ∃ N i : Nat, i ≤ cs.length ∧ iv = .int .i64 i ∧ nv = .int .i64 N ∧ N ≤ B + 80000 ∧ Pur w wr ∧ Hid (N = B + allSum (cs.take i) ∨ (40000 ≤ N ∧ 40000 ≤ B + allSum cs))) (fun _ i _ => cs.length + 1 - (intOf i).toNat)
  case atStart => exact ⟨B, 0, by omega, rfl, rfl, by omega, P0, Lib.hid (.inl (by simp [allSum]))⟩
  case round =>
    obtain ⟨N, i, hil, rfl, rfl, hNB, hpr, HN⟩ := hrel
    have hfin : ¬ (i < cs.length ∧ N < 40000) → R = decide (40000 ≤ N) := fun hno => by
      rw [← HR.out]
      rcases HN.out with e | ⟨e1, e2⟩
      · by_cases hi : i < cs.length
        · have h1 : 40000 ≤ N := by omega
          have := allSum_le cs i
          rw [decide_eq_true h1, decide_eq_true (by omega)]
        · have hi' : cs.take i = cs := List.take_of_length_le (by omega)
          rw [hi'] at e
          rw [e]
      · rw [decide_eq_true e1, decide_eq_true e2]
    by_cases hlt : i < cs.length
    · have d1 : decide ((i : Int) < cs.length) = true := decide_eq_true (by omega)
      by_cases hN : N < 40000
      · have d2 : decide ((N : Int) < 40000) = true := decide_eq_true (by omega)
        obtain ⟨x, hx⟩ : ∃ x, cs[i]? = some x := ⟨_, List.getElem?_eq_getElem hlt⟩
        obtain ⟨b1, o1, hsa, hb1, hcell⟩ := hC i x hx
        have hfx := hf x (List.mem_of_getElem? hx)
        obtain ⟨ia, ic, hie, hIC⟩ := hfx.2.1.each
        have hxl := hfx.2.2.1
        have k2 := hcell 2 _ rfl
        rw [hie] at k2
        subst hsa
        have K2 : ∀ w', Pur w w' → w'.cell? ⟨b1, o1 + i * 3 + 2, none⟩ = some (.slice ia x.items.length ic) := fun w' hp => (hp.cell (p := ⟨b1, o1 + i * 3 + 2, none⟩) hb1).trans k2
        have hsum := allSum_step hx
        have hP : N = B + allSum (cs.take i) := by
          rcases HN.out with e | ⟨e1, e2⟩
          · exact e
          · omega
        have HS := Lib.hid (And.intro hsum hP)
        have wr2 : IntKind.i64.wrap ((i : Int) + 1) = i + 1 := IntWalk.i64_in _ (by omega)
        have i0 : (0 : Int) ≤ i := by omega
        have i1 : (i : Int) < cs.length := by omega
        have HTL := Lib.hid (allSum_le cs (i + 1))
        have HLL := Lib.hid (fun k => lenSum_le x.items k)
        have HST := Lib.hid (fun k y (h : x.items[k]? = some y) => lenSum_step h)
        generalize x.items = its at *
        clear hC hf hcell k2 hfx hfin HR hx hsum hP HN
        go_wp2_with fail
        go_loopw [7, 9] (fun nv kv wr => ∃ M k : Nat, k ≤ its.length ∧ kv = .int .i64 k ∧ nv = .int .i64 M ∧ M ≤ 80000 ∧ Pur w wr ∧ Hid (M = N + lenSum (its.take k))) (fun _ k _ => its.length + 1 - (intOf k).toNat)
        case atStart => exact ⟨N, 0, by omega, rfl, rfl, by omega, hpr, Lib.hid (by simp [lenSum])⟩
        case round =>
          obtain ⟨M, k, hkl, rfl, rfl, hM, hpr2, HM⟩ := hrel
          have q2 := K2 _ hpr2
          have hnext : ¬ (k < its.length ∧ M < 40000) → M = B + allSum (cs.take (i + 1)) ∨ (40000 ≤ M ∧ 40000 ≤ B + allSum cs) := fun hno => by
            have h1 := HS.out
            have h2 := HM.out
            by_cases hk : k < its.length
            · have h3 := HTL.out
              have h4 := HLL.out k
              right; omega
            · left
              rw [show its.take k = its from List.take_of_length_le (by omega)] at h2
              omega
          by_cases hk : k < its.length
          · have e1 : decide ((k : Int) < its.length) = true := decide_eq_true (by omega)
            by_cases hM4 : M < 40000
            · have e2 : decide ((M : Int) < 40000) = true := decide_eq_true (by omega)
              obtain ⟨y, hy⟩ : ∃ y, its[k]? = some y := ⟨_, List.getElem?_eq_getElem hk⟩
              obtain ⟨b2, o2, hia, hb2, hcell2⟩ := hIC k y hy
              have hst := HST.out k y hy
              have c2 := (hpr2.cell (p := ⟨b2, o2 + k * 4 + 2, none⟩) hb2).trans (hcell2 2 _ rfl)
              subst hia
              have k0 : (0 : Int) ≤ k := by omega
              have k1 : (k : Int) < its.length := by omega
              have wr3 : IntKind.i64.wrap ((k : Int) + 1) = k + 1 := IntWalk.i64_in _ (by omega)
              have mn : min (40000 : Int) (y.text.length : Int) = ((min 40000 y.text.length : Nat) : Int) := by omega
              have wr4 : IntKind.i64.wrap ((M : Int) + ((min 40000 y.text.length : Nat) : Int)) = ((M + min 40000 y.text.length : Nat) : Int) := by rw [IntWalk.i64_in _ (by omega)]; omega
              have HT := Lib.hid (show M + min 40000 y.text.length = N + lenSum (its.take (k + 1)) by rw [hst]; have := HM.out; omega)
              clear hIC hcell2 hnext hst HM HS HTL HLL HST
              go_wp2_with fail
              go_roundw
              case rel => exact ⟨M + min 40000 y.text.length, k + 1, by omega, by go_num, by go_num, by omega, hpr2, HT⟩
              case measure => simp [intOf]; omega
            · have e2 : decide ((M : Int) < 40000) = false := decide_eq_false (by omega)
              have HX := Lib.hid (hnext (by omega))
              clear hIC hnext HM HS HTL HLL HST
              go_wp2
              go_roundw
              case rel => exact ⟨M, i + 1, by omega, by go_num, rfl, by omega, hpr2, HX⟩
              case measure => simp [intOf]; omega
          · have e1 : decide ((k : Int) < its.length) = false := decide_eq_false (by omega)
            have HX := Lib.hid (hnext (by omega))
            clear hIC hnext HM HS HTL HLL HST
            go_wp2
            go_roundw
            case rel => exact ⟨M, i + 1, by omega, by go_num, rfl, by omega, hpr2, HX⟩
            case measure => simp [intOf]; omega
      · have d2 : decide ((N : Int) < 40000) = false := decide_eq_false (by omega)
        have hfin := hfin (by omega)
        obtain ⟨q, hq⟩ : ∃ q, decide (40000 ≤ N) = q := ⟨_, rfl⟩
        rw [hq] at hfin
        have hqi : decide ((40000 : Int) ≤ N) = q := by rw [← hq]; exact decide_eq_decide.2 (by omega)
        clear hq
        have HZ := Lib.hid hfin
        clear hC hf HR HN hfin
        go_wp2
        go_ret
        exact ⟨by rw [HZ.out]; rfl, hpr⟩
    · have d1 : decide ((i : Int) < cs.length) = false := decide_eq_false (by omega)
      have hfin := hfin (by omega)
      obtain ⟨q, hq⟩ : ∃ q, decide (40000 ≤ N) = q := ⟨_, rfl⟩
      rw [hq] at hfin
      have hqi : decide ((40000 : Int) ≤ N) = q := by rw [← hq]; exact decide_eq_decide.2 (by omega)
      clear hq
      have HZ := Lib.hid hfin
      clear hC hf HR HN hfin
      go_wp2
      go_ret
      exact ⟨by rw [HZ.out]; rfl, hpr⟩
end Cv
end Go.Proofs.YtapgibcdbggpkaaGreatDoor
namespace Go.Proofs.YtapgibcdbggpkaaGreatDoor
open Go Go.RowKit
set_option linter.all false
namespace Cv
theorem hd_new2 : Hd.new 2000 = ⟨2000, []⟩ := by
  unfold Hd.new cellsOf
  rw [show min (max (2000 : Int) 0) 10000 = 2000 by omega]
  rfl
theorem items_len {w0 w : World} {hh G g : Nat} {X : Nat → Prop} {d : Hd} (h : Two w0 hh G g X w d) (hG : G ≤ 10000) (i : Int) : ((d.items i).getD []).length ≤ 10000 := by
  obtain ⟨r, h1, h2, h3, h5, h4⟩ := h.ex
  unfold Hd.items
  cases hx : d.obj i with
  | none => simp
  | some x =>
    have hb := h4.ok.mem (Hd.obj_mem hx).1
    simp only [Option.bind_some]
    split
    · simp only [Option.getD_some]; omega
    · simp
theorem key_short (n : Nat) (hn : n ≤ 10000) : (keyOf (n : Int)).length ≤ 1000000 := by
  unfold keyOf
  rw [wide8_len]
  have := itoa_short (n : Int) (by omega) (by omega)
  omega
set_option maxRecDepth 100000 in
set_option maxHeartbeats 64000000 in
theorem heaps_any (v : Value) (cs : List Sp) (w : World) (hW : CW w) (h : LRead 3 Sp.cells w v cs) (hf : ∀ c ∈ cs, SFine w c) (hn : cs.length ≤ 1000000000) :
    Calls Tryz.prog 5 #[v] w fun e w' => ∃ hh g d, e = .returned (.tuple #[.pointer (some ⟨hh, 0, none⟩), .pointer (some ⟨g, 0, none⟩)]) ∧ Two w hh 2000 g (fun _ => False) w' d := by
  obtain ⟨sa, sc, rfl, hC⟩ := h
  have N1 := new_st 2000 w
  rw [hd_new2] at N1
  go_enter Tryz.func5, Tryz.ntmps5
  go_wp2_with fail
  refine N1.mono ?_
  rintro e w1 ⟨hh, rfl, A1⟩
  have R1 := rnew_at w1
  clear N1
  go_wp2_with fail
  refine R1.mono ?_
  rintro e w2 ⟨r, rfl, k1, k2, k3⟩
  have T2 : Two w hh 2000 r.g (fun _ => False) w2 ⟨2000, []⟩ := by
    have hs := A1.pur.size
    refine ⟨⟨r, k1, rfl, fun b hb => Nat.le_trans hs (k3 b hb), fun _ h => h.elim, ?_⟩, fun x hx => by cases hx⟩
    exact At.other A1 (Chg.of_pur (S := []) k2) (fun _ h => by cases h) (fun _ h => by cases h) fun b hb => by
      rcases hb with hb | hb
      · exact ⟨.inr (k3 b hb), k1.lt b hb⟩
      · exact hb.elim
  generalize r.g = g at *
  clear R1 A1 k1 k2 k3
  go_wp2_with fail
  go_loopw [6] (fun i wr => ∃ (n : Nat) (d : Hd), n ≤ cs.length ∧ i = .int .i64 n ∧ Two w hh 2000 g (fun _ => False) wr d) (fun i _ => cs.length + 1 - (intOf i).toNat)
  case atStart => exact ⟨0, _, by omega, rfl, T2⟩
  case round =>
    obtain ⟨n, d, hnl, rfl, T⟩ := hrel
    have TB := T.below
    by_cases hlt : n < cs.length
    · have d1 : decide ((n : Int) < cs.length) = true := decide_eq_true (by omega)
      by_cases h20 : n < 20
      · have d2 : decide ((n : Int) < 20) = true := decide_eq_true (by omega)
        have wr1 : IntKind.i64.wrap ((n : Int) + 1) = n + 1 := IntWalk.i64_in _ (by omega)
        have n0 : (0 : Int) ≤ n := by omega
        have n1 : (n : Int) < cs.length := by omega
        obtain ⟨x, hx⟩ : ∃ x, cs[n]? = some x := ⟨_, List.getElem?_eq_getElem hlt⟩
        obtain ⟨b, o, ha, hb, hcell⟩ := hC n x hx
        subst ha
        have hfx := hf x (List.mem_of_getElem? hx)
        have kk : ∀ (i : Nat) u, x.cells[i]? = some u → wr.cell? ⟨b, o + n * 3 + i, none⟩ = some u := fun i u hu => (TB.cell (p := ⟨b, o + n * 3 + i, none⟩) hb).trans (hcell i u hu)
        obtain ⟨ia, ic, hie, hIC⟩ := hfx.2.1.each
        obtain ⟨q1, q2, q3, q4⟩ := hfx
        obtain ⟨xk, xo, its, xv⟩ := x
        simp only at hie q1 q2 q3 q4 hIC
        subst hie
        have k0 := kk 0 _ rfl
        have k1 := kk 1 _ rfl
        have k2 := kk 2 _ rfl
        rw [Nat.add_zero] at k0
        simp only at k0 k1 k2
        have PA : Pur wr (wr.alloc (.cells #[.int .u8 xk, .int .i64 xo, .slice ia its.length ic] 54)) := (Pur.refl wr).alloc _
        have BK := bk_new wr (.cells #[.int .u8 xk, .int .i64 xo, .slice ia its.length ic] 54)
        have T1 := T.keep PA wr.heap.size (Nat.le_refl _) (by simp)
        have s0 := bk_cell BK 0 _ rfl
        have s1 := bk_cell BK 1 _ rfl
        have s2 := bk_cell BK 2 _ rfl
        clear hC hf hcell kk hx T
        by_cases hbig : 20 < its.length
        · have d3 : decide ((20 : Int) < its.length) = true := decide_eq_true (by omega)
          clear T2 BK s0 s1 q1 q2 q4 hIC
          go_wp2
          go_roundw
          case rel => exact ⟨n + 1, d, by omega, by go_num, T1.sub fun _ h => .inl h⟩
          case measure => first | (simp [intOf]; done) | (simp [intOf]; omega)
        have d3 : decide ((20 : Int) < its.length) = false := decide_eq_false (by omega)
        have HIT : ∀ w', Pur w w' → VRead2 w' (.slice ia its.length ic) its := fun w' hp => q2.pur hp
        have BKP := PA.size
        have hW2 := hW
        rcases (show xk % 4 = 0 ∨ xk % 4 = 1 ∨ xk % 4 = 2 ∨ xk % 4 = 3 by omega) with h4 | h4 | h4 | h4
        · have e4 : (xk : Int) % 4 = 0 := by omega
          have AR := two_prog T1 (d' := (d.array its).2) (wf_array T1.wf its q4) (fun K A => array2_st A (.slice ia its.length ic) its (HIT _ T1.below) q4 (by omega))
          clear T2 q1 q2 hIC PA h4
          go_wp2_with fail
          refine AR.mono ?_
          rintro e w3 ⟨rfl, T3, K3⟩
          have BK3 := (K3 wr.heap.size (.inr rfl)).trans BK
          have s2' := bk_cell BK3 2 _ rfl
          have RC : ∀ r : Rf, RfAt w3 r → r.g = g → Calls Tryz.prog 22 #[.pointer (some ⟨g, 0, none⟩), .slice ia its.length ic] w3 fun e w' => (∃ x y : Int, e = .returned (.tuple #[.int .i64 x, .int .i64 y])) ∧ ∃ r', RfAt w' r' ∧ RStep w3 r w' r' := fun r H hg => hg ▸ rarray_any r (.slice ia its.length ic) its w3 H (HIT _ T3.below) q4 (by omega)
          have RR := two_ref T3 RC
          clear AR K3 BK3 BK s0 s1 s2 T1 T3 RC
          go_wp2_with fail
          refine RR.mono ?_
          rintro e w4 ⟨⟨x, y, rfl⟩, T4, -⟩
          clear RR
          go_wp2
          go_roundw
          case rel => exact ⟨n + 1, _, by omega, by go_num, T4.sub fun _ h => .inl h⟩
          case measure => first | (simp [intOf]; done) | (simp [intOf]; omega)
        · have e4 : (xk : Int) % 4 = 1 := by omega
          have AR := two_prog T1 (d' := (d.plain (-1)).2) (wf_plain T1.wf (-1)) (fun K A => plain_st A (-1))
          clear T2 q1 q2 hIC PA h4
          go_wp2_with fail
          refine AR.mono ?_
          rintro e w3 ⟨rfl, T3, K3⟩
          have BK3 := (K3 wr.heap.size (.inr rfl)).trans BK
          have s2' := bk_cell BK3 2 _ rfl
          have RC : ∀ r : Rf, RfAt w3 r → r.g = g → Calls Tryz.prog 24 #[.pointer (some ⟨g, 0, none⟩), .int .i64 (-1)] w3 fun e w' => (∃ x y : Int, e = .returned (.tuple #[.int .i64 x, .int .i64 y])) ∧ ∃ r', RfAt w' r' ∧ RStep w3 r w' r' := fun r H hg => hg ▸ rplain_any r w3 H
          have RR := two_ref T3 RC
          clear AR K3 BK3 BK s0 s1 s2 T1 T3 RC
          go_wp2_with fail
          refine RR.mono ?_
          rintro e w4 ⟨⟨x, y, rfl⟩, T4, -⟩
          clear RR
          go_wp2
          go_roundw
          case rel => exact ⟨n + 1, _, by omega, by go_num, T4.sub fun _ h => .inl h⟩
          case measure => first | (simp [intOf]; done) | (simp [intOf]; omega)
        · have e4 : (xk : Int) % 4 = 2 := by omega
          have AR := two_prog T1 (d' := (d.func 0 0 (-1)).2) (wf_func T1.wf 0 0 (-1)) (fun K A => func_st A 0 0 (-1))
          clear T2 q1 q2 hIC PA h4
          go_wp2_with fail
          refine AR.mono ?_
          rintro e w3 ⟨rfl, T3, K3⟩
          have BK3 := (K3 wr.heap.size (.inr rfl)).trans BK
          have s2' := bk_cell BK3 2 _ rfl
          have RC : ∀ r : Rf, RfAt w3 r → r.g = g → Calls Tryz.prog 26 #[.pointer (some ⟨g, 0, none⟩), .int .i64 0, .int .i64 0, .int .i64 (-1)] w3 fun e w' => (∃ x y : Int, e = .returned (.tuple #[.int .i64 x, .int .i64 y])) ∧ ∃ r', RfAt w' r' ∧ RStep w3 r w' r' := fun r H hg => hg ▸ rfunc_any r w3 H
          have RR := two_ref T3 RC
          clear AR K3 BK3 BK s0 s1 s2 T1 T3 RC
          go_wp2_with fail
          refine RR.mono ?_
          rintro e w4 ⟨⟨x, y, rfl⟩, T4, -⟩
          clear RR
          go_wp2
          go_roundw
          case rel => exact ⟨n + 1, _, by omega, by go_num, T4.sub fun _ h => .inl h⟩
          case measure => first | (simp [intOf]; done) | (simp [intOf]; omega)
        · have e4 : (xk : Int) % 4 = 3 := by omega
          obtain ⟨r1, a1, rg, a3, a5, A1⟩ := T1.ex
          have IT := items_st A1 xo
          have hL := items_len T1 (by decide) xo
          clear T2 q1 q2 PA h4 a1 rg a3 a5 A1
          go_wp2_with fail
          refine IT.mono ?_
          rintro e w3 ⟨lv, rfl, p3, hrow⟩
          obtain ⟨la, lc, rfl⟩ := row_shape hrow
          have T3 := T1.pur p3
          have BK3 := bk_pur BK p3
          have TB3 := T3.below
          generalize ((d.items xo).getD []).length = L at *
          generalize (d.items xo).isSome = b1 at *
          clear IT hrow T1 BK s0 s1 s2 k0 k1 k2
          have s1 := bk_cell BK3 1 _ rfl
          have s2 := bk_cell BK3 2 _ rfl
          by_cases hpos : 0 < its.length
          · have dd : decide ((0 : Int) < its.length) = true := decide_eq_true (by omega)
            have dp : (0 : Int) < its.length := by omega
            obtain ⟨y, hy⟩ : ∃ y, its[0]? = some y := ⟨_, List.getElem?_eq_getElem hpos⟩
            obtain ⟨b2, o2, rfl, hb2, hc2⟩ := hIC 0 y hy
            have hyw := q4 y (List.mem_of_getElem? hy)
            have PU := fun w4 (hp : Pur w3 w4) => two_prog (T3.pur hp) (d' := (d.put xo (keyOf (L : Int)) y).2) (wf_put T3.wf xo _ y hyw) (fun K A => put_st A xo (keyOf (L : Int)) y hyw (key_short L hL))
            have KC : ∀ z : PW w3, Calls Tryz.prog 29 #[.int .i64 (L : Int)] z.to fun e w' => e = .returned (.string ⟨(keyOf (L : Int)).toArray⟩) ∧ Pur z.to w' := fun z => key_any (L : Int) z.to (hW.h.pur (TB3.trans z.pur)) (by omega) (by omega)
            have RP : ∀ (w6 : World) (r : Rf) (i : Nat) (o : RO), RfAt w6 r → r.os[i]? = some o → o.kind = 2 → _ := fun w6 r i o H ho hk => rput_any r i o y w6 H ho hk hyw
            obtain ⟨yk, yn, yt, yr⟩ := y
            simp only [Va.v, Va.cells] at PU RP
            have hcc : ∀ (j : Nat) u, (Va.mk yk yn yt yr).cells[j]? = some u → ∀ w6, Pur w w6 → w6.cell? ⟨b2, o2 + j, none⟩ = some u := fun j u hu w6 hp => (hp.cell (p := ⟨b2, o2 + j, none⟩) hb2).trans (by have := hc2 j u hu; rw [Nat.zero_mul, Nat.add_zero] at this; exact this)
            have HCC : ∀ w6, Pur w w6 → w6.cell? ⟨b2, o2, none⟩ = some (.int .i64 yk) ∧ w6.cell? ⟨b2, o2 + 1, none⟩ = some (.float .f64 yn) ∧ w6.cell? ⟨b2, o2 + 2, none⟩ = some (.string ⟨yt.toArray⟩) ∧ w6.cell? ⟨b2, o2 + 3, none⟩ = some (.int .i64 yr) := fun w6 hp => ⟨hcc 0 _ rfl w6 hp, hcc 1 _ rfl w6 hp, hcc 2 _ rfl w6 hp, hcc 3 _ rfl w6 hp⟩
            generalize keyOf (L : Int) = KY at *
            clear hc2 hIC hy hyw q4 HIT hcc
            cases b1
            case true =>
              have z0 : ∀ z : PW w3, z.to.cell? ⟨b2, o2, none⟩ = some (.int .i64 yk) := fun z => (HCC z.to (TB3.trans z.pur)).1
              have z1 : ∀ z : PW w3, z.to.cell? ⟨b2, o2 + 1, none⟩ = some (.float .f64 yn) := fun z => (HCC z.to (TB3.trans z.pur)).2.1
              have z2 : ∀ z : PW w3, z.to.cell? ⟨b2, o2 + 2, none⟩ = some (.string ⟨yt.toArray⟩) := fun z => (HCC z.to (TB3.trans z.pur)).2.2.1
              have z3 : ∀ z : PW w3, z.to.cell? ⟨b2, o2 + 3, none⟩ = some (.int .i64 yr) := fun z => (HCC z.to (TB3.trans z.pur)).2.2.2
              have Z1 : ∀ z : PW w3, z.to.cell? ⟨wr.heap.size, 1, none⟩ = some (.int .i64 xo) := fun z => bk_cell (bk_pur BK3 z.pur) 1 _ rfl
              have Z2 : ∀ z : PW w3, z.to.cell? ⟨wr.heap.size, 2, none⟩ = some (.slice (some ⟨b2, o2, none⟩) its.length ic) := fun z => bk_cell (bk_pur BK3 z.pur) 2 _ rfl
              have BKP : ∀ w4, Pur w3 w4 → _ := fun w4 hp => bk_pur BK3 hp
              clear T3 BK3
              go_wp2_with fail
              refine wp_region_pur_tail 10 (by kernel_rfl) (by kernel_rfl) ?_
              simp only [List.take_succ_cons, List.take_zero, List.drop_succ_cons, List.drop_zero]
              repeat (go_big_quiet_step (((go_at_call 29; with_reducible exact quiet_pur (KC _)))))
              refine wpQuiet_nil ?_
              intro w4 h4
              have PU4 := PU _ h4
              have B4 := BKP _ h4
              clear PU KC z0 z1 z2 z3 Z1 Z2 BKP s1 s2
              go_wp2_with fail
              refine PU4.mono ?_
              rintro e w5 ⟨rfl, T5, K5⟩
              have BK5 := (K5 wr.heap.size (.inr rfl)).trans B4
              clear PU4 K5 B4 h4 TB3 p3
              have s1 := bk_cell BK5 1 _ rfl
              have s2 := bk_cell BK5 2 _ rfl
              have TB5 := T5.below
              obtain ⟨r, H5, rfl, low, nX, A5⟩ := T5.ex
              have KD := rkind_any r xo _ H5
              cases hobj : r.obj xo with
              | none =>
                rw [hobj] at KD
                simp only [Option.map_none, Option.getD_none] at KD
                have HT := Lib.hid T5
                clear RP HCC T5 H5 low nX A5 BK5
                go_wp2_with fail
                refine KD.mono ?_
                rintro e _ ⟨rfl, rfl⟩
                clear KD
                go_wp2
                go_roundw
                case rel => exact ⟨n + 1, _, by omega, by go_num, HT.out.sub fun _ h => .inl h⟩
                case measure => first | (simp [intOf]; done) | (simp [intOf]; omega)
              | some o =>
                rw [hobj] at KD
                simp only [Option.map_some, Option.getD_some] at KD
                by_cases hk2 : o.kind = 2
                · rw [hk2] at KD
                  obtain ⟨i, rfl, hil, ho⟩ := obj_some hobj
                  have hroom := H5.room i o ho
                  have hlo := H5.lo
                  go_wp2_with fail
                  refine KD.mono ?_
                  rintro e _ ⟨rfl, rfl⟩
                  clear KD
                  have Q0 : ∀ z : PW w5, z.to.cell? ⟨r.g, 0, none⟩ = some r.ov := fun z => (H5.pur z.pur).cell0
                  obtain ⟨oa, oc, hov, hOC⟩ := H5.rows
                  rw [hov] at Q0
                  obtain ⟨G, rfl, hGk⟩ := hOC i o ho
                  obtain ⟨va, vc, hiv⟩ := row_shape (H5.each i o ho)
                  have hGlt : G < w5.heap.size := (H5.row.lt G (by rw [hov]; rfl)).2
                  have Q6 : ∀ z : PW w5, z.to.cell? ⟨G, i * 7 + 6, none⟩ = some (.slice va o.vs.length vc) := fun z => (z.pur.cell (p := ⟨G, i * 7 + 6, none⟩) hGlt).trans (by have := hGk 6 _ rfl; rw [hiv] at this; exact this)
                  have z0 : ∀ z : PW w5, z.to.cell? ⟨b2, o2, none⟩ = some (.int .i64 yk) := fun z => (HCC z.to (TB5.trans z.pur)).1
                  have z1 : ∀ z : PW w5, z.to.cell? ⟨b2, o2 + 1, none⟩ = some (.float .f64 yn) := fun z => (HCC z.to (TB5.trans z.pur)).2.1
                  have z2 : ∀ z : PW w5, z.to.cell? ⟨b2, o2 + 2, none⟩ = some (.string ⟨yt.toArray⟩) := fun z => (HCC z.to (TB5.trans z.pur)).2.2.1
                  have z3 : ∀ z : PW w5, z.to.cell? ⟨b2, o2 + 3, none⟩ = some (.int .i64 yr) := fun z => (HCC z.to (TB5.trans z.pur)).2.2.2
                  have Z1 : ∀ z : PW w5, z.to.cell? ⟨wr.heap.size, 1, none⟩ = some (.int .i64 i) := fun z => bk_cell (bk_pur BK5 z.pur) 1 _ rfl
                  have Z2 : ∀ z : PW w5, z.to.cell? ⟨wr.heap.size, 2, none⟩ = some (.slice (some ⟨b2, o2, none⟩) its.length ic) := fun z => bk_cell (bk_pur BK5 z.pur) 2 _ rfl
                  have KR : ∀ z : PW w5, Calls Tryz.prog 32 #[.int .i64 (o.vs.length : Int)] z.to fun e w' => e = .returned (.string ⟨(keyOf (o.vs.length : Int)).toArray⟩) ∧ Pur z.to w' := fun z => rkey_any (o.vs.length : Int) z.to (by omega) (by omega)
                  have RW := fun w7 (hp : Pur w5 w7) => two_ref1 (X := fun k => False ∨ k = wr.heap.size) (H5.pur hp) low nX (A5.pure hp).1 T5.wf (RP w7 r i o (H5.pur hp) ho hk2)
                  generalize keyOf (o.vs.length : Int) = KZ at *
                  have i0 : (0 : Int) ≤ i := by omega
                  have i1 : (i : Int) < r.os.length := by omega
                  clear RP HCC T5 H5 low nX A5 BK5 hOC hGk
                  go_wp2_with fail
                  refine wp_region_pur_tail 18 (by kernel_rfl) (by kernel_rfl) ?_
                  simp only [List.take_succ_cons, List.take_zero, List.drop_succ_cons, List.drop_zero]
                  repeat (go_big_quiet_step (((go_at_call 32; with_reducible exact quiet_pur (KR _)))))
                  refine wpQuiet_nil ?_
                  intro w7 h7
                  have RW7 := RW _ h7
                  clear RW KR z0 z1 z2 z3 Z1 Z2 Q0 Q6
                  go_wp2_with fail
                  refine RW7.mono ?_
                  rintro e w8 ⟨⟨x, rfl⟩, T8, -⟩
                  clear RW7
                  go_wp2
                  go_roundw
                  case rel => exact ⟨n + 1, _, by omega, by go_num, T8.sub fun _ h => .inl h⟩
                  case measure => first | (simp [intOf]; done) | (simp [intOf]; omega)
                · have bk1 : (o.kind == 2) = false := beq_eq_false_iff_ne.2 hk2
                  have bk2 : decide (o.kind = 2) = false := decide_eq_false hk2
                  have HT := Lib.hid T5
                  clear RP HCC T5 H5 low nX A5 BK5
                  go_wp2_with fail
                  refine KD.mono ?_
                  rintro e _ ⟨rfl, rfl⟩
                  clear KD
                  go_wp2
                  go_roundw
                  case rel => exact ⟨n + 1, _, by omega, by go_num, HT.out.sub fun _ h => .inl h⟩
                  case measure => first | (simp [intOf]; done) | (simp [intOf]; omega)
            case false =>
              have T5 := T3
              have BK5 := BK3
              clear T3 BK3 PU KC s1 s2 TB3 p3
              have s1 := bk_cell BK5 1 _ rfl
              have s2 := bk_cell BK5 2 _ rfl
              have TB5 := T5.below
              obtain ⟨r, H5, rfl, low, nX, A5⟩ := T5.ex
              have KD := rkind_any r xo _ H5
              cases hobj : r.obj xo with
              | none =>
                rw [hobj] at KD
                simp only [Option.map_none, Option.getD_none] at KD
                have HT := Lib.hid T5
                clear RP HCC T5 H5 low nX A5 BK5
                go_wp2_with fail
                refine KD.mono ?_
                rintro e _ ⟨rfl, rfl⟩
                clear KD
                go_wp2
                go_roundw
                case rel => exact ⟨n + 1, _, by omega, by go_num, HT.out.sub fun _ h => .inl h⟩
                case measure => first | (simp [intOf]; done) | (simp [intOf]; omega)
              | some o =>
                rw [hobj] at KD
                simp only [Option.map_some, Option.getD_some] at KD
                by_cases hk2 : o.kind = 2
                · rw [hk2] at KD
                  obtain ⟨i, rfl, hil, ho⟩ := obj_some hobj
                  have hroom := H5.room i o ho
                  have hlo := H5.lo
                  go_wp2_with fail
                  refine KD.mono ?_
                  rintro e _ ⟨rfl, rfl⟩
                  clear KD
                  have Q0 : ∀ z : PW w3, z.to.cell? ⟨r.g, 0, none⟩ = some r.ov := fun z => (H5.pur z.pur).cell0
                  obtain ⟨oa, oc, hov, hOC⟩ := H5.rows
                  rw [hov] at Q0
                  obtain ⟨G, rfl, hGk⟩ := hOC i o ho
                  obtain ⟨va, vc, hiv⟩ := row_shape (H5.each i o ho)
                  have hGlt : G < w3.heap.size := (H5.row.lt G (by rw [hov]; rfl)).2
                  have Q6 : ∀ z : PW w3, z.to.cell? ⟨G, i * 7 + 6, none⟩ = some (.slice va o.vs.length vc) := fun z => (z.pur.cell (p := ⟨G, i * 7 + 6, none⟩) hGlt).trans (by have := hGk 6 _ rfl; rw [hiv] at this; exact this)
                  have z0 : ∀ z : PW w3, z.to.cell? ⟨b2, o2, none⟩ = some (.int .i64 yk) := fun z => (HCC z.to (TB5.trans z.pur)).1
                  have z1 : ∀ z : PW w3, z.to.cell? ⟨b2, o2 + 1, none⟩ = some (.float .f64 yn) := fun z => (HCC z.to (TB5.trans z.pur)).2.1
                  have z2 : ∀ z : PW w3, z.to.cell? ⟨b2, o2 + 2, none⟩ = some (.string ⟨yt.toArray⟩) := fun z => (HCC z.to (TB5.trans z.pur)).2.2.1
                  have z3 : ∀ z : PW w3, z.to.cell? ⟨b2, o2 + 3, none⟩ = some (.int .i64 yr) := fun z => (HCC z.to (TB5.trans z.pur)).2.2.2
                  have Z1 : ∀ z : PW w3, z.to.cell? ⟨wr.heap.size, 1, none⟩ = some (.int .i64 i) := fun z => bk_cell (bk_pur BK5 z.pur) 1 _ rfl
                  have Z2 : ∀ z : PW w3, z.to.cell? ⟨wr.heap.size, 2, none⟩ = some (.slice (some ⟨b2, o2, none⟩) its.length ic) := fun z => bk_cell (bk_pur BK5 z.pur) 2 _ rfl
                  have KR : ∀ z : PW w3, Calls Tryz.prog 32 #[.int .i64 (o.vs.length : Int)] z.to fun e w' => e = .returned (.string ⟨(keyOf (o.vs.length : Int)).toArray⟩) ∧ Pur z.to w' := fun z => rkey_any (o.vs.length : Int) z.to (by omega) (by omega)
                  have RW := fun w7 (hp : Pur w3 w7) => two_ref1 (X := fun k => False ∨ k = wr.heap.size) (H5.pur hp) low nX (A5.pure hp).1 T5.wf (RP w7 r i o (H5.pur hp) ho hk2)
                  generalize keyOf (o.vs.length : Int) = KZ at *
                  have i0 : (0 : Int) ≤ i := by omega
                  have i1 : (i : Int) < r.os.length := by omega
                  clear RP HCC T5 H5 low nX A5 BK5 hOC hGk
                  go_wp2_with fail
                  refine wp_region_pur_tail 18 (by kernel_rfl) (by kernel_rfl) ?_
                  simp only [List.take_succ_cons, List.take_zero, List.drop_succ_cons, List.drop_zero]
                  repeat (go_big_quiet_step (((go_at_call 32; with_reducible exact quiet_pur (KR _)))))
                  refine wpQuiet_nil ?_
                  intro w7 h7
                  have RW7 := RW _ h7
                  clear RW KR z0 z1 z2 z3 Z1 Z2 Q0 Q6
                  go_wp2_with fail
                  refine RW7.mono ?_
                  rintro e w8 ⟨⟨x, rfl⟩, T8, -⟩
                  clear RW7
                  go_wp2
                  go_roundw
                  case rel => exact ⟨n + 1, _, by omega, by go_num, T8.sub fun _ h => .inl h⟩
                  case measure => first | (simp [intOf]; done) | (simp [intOf]; omega)
                · have bk1 : (o.kind == 2) = false := beq_eq_false_iff_ne.2 hk2
                  have bk2 : decide (o.kind = 2) = false := decide_eq_false hk2
                  have HT := Lib.hid T5
                  clear RP HCC T5 H5 low nX A5 BK5
                  go_wp2_with fail
                  refine KD.mono ?_
                  rintro e _ ⟨rfl, rfl⟩
                  clear KD
                  go_wp2
                  go_roundw
                  case rel => exact ⟨n + 1, _, by omega, by go_num, HT.out.sub fun _ h => .inl h⟩
                  case measure => first | (simp [intOf]; done) | (simp [intOf]; omega)
          · have hz : its.length = 0 := by omega
            have dd : decide ((0 : Int) < its.length) = false := decide_eq_false (by omega)
            have dp : ¬ (0 : Int) < its.length := by omega
            obtain ⟨r, H5, rfl, low, nX, A5⟩ := T3.ex
            have KD := rkind_any r xo _ H5
            have HT := Lib.hid T3
            have HK := Lib.hid (rfl : 0 = 0)
            obtain ⟨kd, hkd⟩ : ∃ kd, ((r.obj xo).map RO.kind).getD 0 = kd := ⟨_, rfl⟩
            rw [hkd] at KD
            obtain ⟨bk, hbk⟩ : ∃ b, (kd == 2) = b := ⟨_, rfl⟩
            have hbk2 : decide (kd = 2) = bk := by rw [← hbk]; rfl
            clear hIC T3 hkd H5 low nX A5 BK3 hz hpos
            cases b1 <;> cases bk
            all_goals
              go_wp2_with fail
              refine KD.mono ?_
              rintro e w6 ⟨rfl, rfl⟩
              clear KD
              go_wp2
              go_roundw
              case rel => exact ⟨n + 1, _, by omega, by go_num, HT.out.sub fun _ h => .inl h⟩
              case measure => first | (simp [intOf]; done) | (simp [intOf]; omega)
      · have d2 : decide ((n : Int) < 20) = false := decide_eq_false (by omega)
        clear T2 hC hf
        go_wp2
        go_ret2
        exact ⟨_, _, _, rfl, T⟩
    · have d1 : decide ((n : Int) < cs.length) = false := decide_eq_false (by omega)
      clear T2 hC hf
      go_wp2
      go_ret2
      exact ⟨_, _, _, rfl, T⟩
end Cv
end Go.Proofs.YtapgibcdbggpkaaGreatDoor
