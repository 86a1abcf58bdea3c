/- Layer 3: elementRight. -/
import Derived.Test.YtigfcchblfnnbaaGreatDoorTeF
import Derived.Test.YtigfcchblfnnbaaGreatDoorTeC
namespace Go.Proofs.YtigfcchblfnnbaaGreatDoor
open Go Go.RowKit
set_option linter.all false
namespace Te
open Tk (Cs ints ints_append ints_length append_int mem_own)
structure ExB (x : ExV) : Prop where
  sp : x.sp.length ≤ 1000000
  lo : x.lo.length ≤ 1000000
  val : x.val.length ≤ 1000000
structure NodeB (n : NodeV) : Prop where
  sp : n.sp.length ≤ 1000000
  lo : n.lo.length ≤ 1000000
  text : n.text.length ≤ 1000000
  ex : ∀ x ∈ n.ex, ExB x
def prevE (l : List ExV) (i : Nat) : Option ExV := if i = 0 then none else l[i - 1]?
theorem ex_step (l : List ExV) (i : Nat) (x : ExV) (h : l[i]? = some x) : exGo (prevE l i) (l.drop i) =
    ((chars x.val).isSome && (spaceR x.sp && (localR x.lo && (!(decide (x.sp = []) && decide (x.lo = tXmlns)) && ((match prevE l i with | none => true | some q => exLt q x) && exGo (prevE l (i + 1)) (l.drop (i + 1))))))) := by
  obtain ⟨hi, e⟩ := List.getElem?_eq_some_iff.1 h
  have hp : prevE l (i + 1) = some x := by unfold prevE; rw [if_neg (by omega)]; exact h
  rw [List.drop_eq_getElem_cons hi, e, hp]
  rfl
theorem cfE_ge (a b : ExV) : (decide ((0 : Int) ≤ cfE a b)) = !exLt a b := by
  unfold cfE or2 cmpS exLt
  by_cases h1 : a.sp < b.sp
  · simp [h1]
  · rw [if_neg h1]
    by_cases h2 : b.sp < a.sp
    · rw [if_pos h2]
      have : ¬ a.sp = b.sp := fun e => by rw [e] at h2; exact List.lt_irrefl _ h2
      simp [h1, this]
    · rw [if_neg h2]
      have e : a.sp = b.sp := List.le_antisymm (List.not_lt.1 h2) (List.not_lt.1 h1)
      simp only [h1, e, if_true]
      by_cases h3 : a.lo < b.lo
      · simp [h3]
      · rw [if_neg h3]
        by_cases h4 : b.lo < a.lo
        · simp [h3, h4]
        · simp [h3, h4]
set_option maxRecDepth 100000 in
set_option maxHeartbeats 16000000 in
theorem elementRight_any (n : NodeV) (ev : Value) (p q : Int) (w : World) (hT : UW w) (hx : XRead w ev n.ex) (hB : NodeB n) :
    Calls Tryz.prog 37 #[.agg #[.string ⟨n.sp.toArray⟩, .string ⟨n.lo.toArray⟩, ev, .string ⟨n.text.toArray⟩, .int .i64 n.par, .int .i64 p, .int .i64 q]] w fun e w' => e = .returned (.bool (elemR n)) ∧ Pur w w' := by
  obtain ⟨ea, ec, rfl⟩ := hx.shape
  obtain ⟨-, hxc, hxm⟩ := hx.len
  obtain ⟨sp, lo, ex, tx, par, at_⟩ := n
  dsimp only at hx hxc hxm ⊢
  have hsp : sp.length ≤ 1000000 := hB.sp
  have hlo : lo.length ≤ 1000000 := hB.lo
  have hex : ∀ x ∈ ex, ExB x := hB.ex
  obtain ⟨w0, hw0⟩ : ∃ w0, w0 = w.alloc (.cells #[.string ⟨sp.toArray⟩, .string ⟨lo.toArray⟩, .slice ea ex.length ec, .string ⟨tx.toArray⟩, .int .i64 par, .int .i64 p, .int .i64 q] 38) := ⟨_, rfl⟩
  obtain ⟨nb, hnb⟩ : ∃ nb, w.heap.size = nb := ⟨_, rfl⟩
  have hb0 : w0.heap[nb]? = some (.cells #[.string ⟨sp.toArray⟩, .string ⟨lo.toArray⟩, .slice ea ex.length ec, .string ⟨tx.toArray⟩, .int .i64 par, .int .i64 p, .int .i64 q] 38 (0, 0)) := by rw [hw0, ← hnb]; exact bk_new w _
  have hp0 : Pur w w0 := by rw [hw0]; exact (Pur.refl w).alloc _
  have h0 := hx.pur hp0
  have LR := fun W (hp : Pur w W) => localRight_any lo W (Utf8Tabs_below hT hp) hlo
  have SP := fun W (hp : Pur w W) => spaceRight_any sp W (Utf8Tabs_below hT hp) hsp
  obtain ⟨R, hR⟩ : ∃ R, elemR ⟨sp, lo, ex, tx, par, at_⟩ = R := ⟨_, rfl⟩
  rw [hR]
  unfold elemR at hR
  dsimp only at hR
  obtain ⟨l1, hl1⟩ : ∃ b, localR lo = b := ⟨_, rfl⟩
  obtain ⟨s1, hs1⟩ : ∃ b, spaceR sp = b := ⟨_, rfl⟩
  rw [hl1] at LR hR
  rw [hs1] at SP hR
  clear hl1 hs1 hB
  have y0 := bk_cell hb0 0 _ rfl
  have y1 := bk_cell hb0 1 _ rfl
  have y3 := bk_cell hb0 3 _ rfl
  have LR0 := LR w0 hp0
  clear hx LR
  rcases l1 with _ | _
  · have HE := Lib.hid (show R = false by rw [← hR]; rfl)
    clear hR
    go_enter Tryz.func37, Tryz.ntmps37
    go_upto_region 1 with (fail)
    rw [← hw0]
    clear hw0
    go_wp2_with fail
    refine LR0.mono ?_
    rintro e w1 ⟨rfl, p1⟩
    clear LR0
    go_wp2
    go_ret
    exact ⟨by rw [HE.out]; rfl, hp0.trans p1⟩
  by_cases htx : ¬ tx = []
  · have HE := Lib.hid (show R = false by rw [← hR, decide_eq_false htx]; rfl)
    have d1 : (tx == []) = false := by simpa using htx
    clear hR htx
    go_enter Tryz.func37, Tryz.ntmps37
    go_upto_region 1 with (fail)
    rw [← hw0]
    clear hw0
    go_wp2_with fail
    refine LR0.mono ?_
    rintro e w1 ⟨rfl, p1⟩
    have z3 : w1.cell? ⟨nb, 3, none⟩ = _ := bk_cell (bk_pur hb0 p1) 3 _ rfl
    clear LR0 y0 y1 y3
    go_wp2
    go_ret
    exact ⟨by rw [HE.out]; rfl, hp0.trans p1⟩
  have htx : tx = [] := by simpa using htx
  subst htx
  rcases s1 with _ | _
  · have HE := Lib.hid (show R = false by rw [← hR]; rfl)
    clear hR
    go_enter Tryz.func37, Tryz.ntmps37
    go_upto_region 1 with (fail)
    rw [← hw0]
    clear hw0
    go_wp2_with fail
    refine LR0.mono ?_
    rintro e w1 ⟨rfl, p1⟩
    have z3 : w1.cell? ⟨nb, 3, none⟩ = _ := bk_cell (bk_pur hb0 p1) 3 _ rfl
    have z0 : w1.cell? ⟨nb, 0, none⟩ = _ := bk_cell (bk_pur hb0 p1) 0 _ rfl
    have SP1 := SP w1 (hp0.trans p1)
    clear LR0 y0 y1 y3 SP
    go_wp2_with fail
    refine SP1.mono ?_
    rintro e w2 ⟨rfl, p2⟩
    clear SP1
    go_wp2
    go_ret
    exact ⟨by rw [HE.out]; rfl, hp0.trans (p1.trans p2)⟩
  have HE := Lib.hid (show R = exGo none ex by rw [← hR]; rfl)
  clear hR
  go_enter Tryz.func37, Tryz.ntmps37
  go_upto_region 1 with (fail)
  rw [← hw0]
  clear hw0
  go_wp2_with fail
  refine LR0.mono ?_
  rintro e w1 ⟨rfl, p1⟩
  have z3 : w1.cell? ⟨nb, 3, none⟩ = _ := bk_cell (bk_pur hb0 p1) 3 _ rfl
  have z0 : w1.cell? ⟨nb, 0, none⟩ = _ := bk_cell (bk_pur hb0 p1) 0 _ rfl
  have SP1 := SP w1 (hp0.trans p1)
  clear LR0 y0 y1 y3 SP
  go_wp2_with fail
  refine SP1.mono ?_
  rintro e w2 ⟨rfl, p2⟩
  have p02 := p1.trans p2
  have z2 : w2.cell? ⟨nb, 2, none⟩ = _ := bk_cell (bk_pur hb0 p02) 2 _ rfl
  clear SP1 z3 z0
  go_wp2
  go_loopw [25] (fun k wx => ∃ (i : Nat), i ≤ ex.length ∧ k = .int .i64 i ∧ Pur w0 wx ∧ Hid (R = exGo (prevE ex i) (ex.drop i))) (fun k _ => ex.length + 1 - (intOf k).toNat)
  case atStart => exact ⟨0, by omega, rfl, p02, Lib.hid (by rw [HE.out]; rfl)⟩
  case round =>
    clear z2
    obtain ⟨i, hi, rfl, hpr, H⟩ := hrel
    have P1 : Pur w wr := hp0.trans hpr
    by_cases hlt : i < ex.length
    · have hlt' : (i : Int) < ex.length := by omega
      obtain ⟨x, hxi⟩ : ∃ x, ex[i]? = some x := ⟨_, List.getElem?_eq_getElem hlt⟩
      have hxb := hex x (List.mem_of_getElem? hxi)
      have HS := Lib.hid (ex_step ex i x hxi)
      obtain ⟨g, o, xp, xq, rfl, hg, HC⟩ := h0.at hxi
      obtain ⟨k0, k1, k2, k3, k4⟩ := HC wr hpr
      obtain ⟨xs, xl, xv, xa⟩ := x
      dsimp only at k0 k1 k2 HS
      obtain ⟨w3, hw3⟩ : ∃ w3, w3 = wr.alloc (.cells #[.string ⟨xs.toArray⟩, .string ⟨xl.toArray⟩, .string ⟨xv.toArray⟩, .int .i64 xp, .int .i64 xq] 81) := ⟨_, rfl⟩
      obtain ⟨xb, hxbk⟩ : ∃ xb, wr.heap.size = xb := ⟨_, rfl⟩
      have hb3 : w3.heap[xb]? = some (.cells #[.string ⟨xs.toArray⟩, .string ⟨xl.toArray⟩, .string ⟨xv.toArray⟩, .int .i64 xp, .int .i64 xq] 81 (0, 0)) := by rw [hw3, ← hxbk]; exact bk_new wr _
      have p3 : Pur wr w3 := by rw [hw3]; exact (Pur.refl wr).alloc _
      have CH := chars_any xv w3 (Utf8Tabs_below hT (P1.trans p3)) hxb.val
      clear hxi
      go_upto_region 6 with (fail)
      rw [← hw3]
      have y2 := bk_cell hb3 2 _ rfl
      clear hw3 k0 k1 k2 k3 k4
      rcases hc : chars xv with _ | cs
      · have HG := Lib.hid (show R = false by rw [H.out, HS.out, hc]; rfl)
        rw [hc] at CH
        clear H HS hc HC h0
        go_wp2_with fail
        refine CH.mono ?_
        rintro e w4 ⟨p4, rfl⟩
        clear CH y2
        go_wp2
        go_ret
        exact ⟨by rw [HG.out]; rfl, P1.trans (p3.trans p4)⟩
      rw [hc] at CH
      have SX := fun W (hp : Pur w W) => spaceRight_any xs W (Utf8Tabs_below hT hp) hxb.sp
      have LX := fun W (hp : Pur w W) => localRight_any xl W (Utf8Tabs_below hT hp) hxb.lo
      obtain ⟨sr, hsr⟩ : ∃ b, spaceR xs = b := ⟨_, rfl⟩
      obtain ⟨lr, hlr⟩ : ∃ b, localR xl = b := ⟨_, rfl⟩
      obtain ⟨e1, he1⟩ : ∃ b, (xs == []) = b := ⟨_, rfl⟩
      obtain ⟨e2, he2⟩ : ∃ b, (xl == [120, 109, 108, 110, 115]) = b := ⟨_, rfl⟩
      have g1 : decide (xs = []) = e1 := by rw [← he1]; by_cases hh : xs = [] <;> simp [hh]
      have g2 : decide (xl = tXmlns) = e2 := by rw [← he2]; unfold tXmlns; by_cases hh : xl = [120, 109, 108, 110, 115] <;> simp [hh]
      have HG := Lib.hid (show R = ((sr && (lr && !(e1 && e2))) && ((match prevE ex i with | none => true | some q => exLt q ⟨xs, xl, xv, xa⟩) && exGo (prevE ex (i + 1)) (ex.drop (i + 1)))) by
        rw [H.out, HS.out, hc, hsr, hlr, g1, g2]; cases sr <;> cases lr <;> cases e1 <;> cases e2 <;> rfl)
      rw [hsr] at SX
      rw [hlr] at LX
      clear H HS hc hsr hlr g1 g2
      go_wp2_with fail
      refine CH.mono ?_
      rintro e w4 ⟨p4, ca, cc, rfl, -⟩
      clear CH y2
      have p34 := p3.trans p4
      have hb4 := bk_pur hb3 p4
      go_upto_region 7 with (fail)
      go_cut [59] from 36 to 59 (fun t wx => t = .bool (!(sr && (lr && !(e1 && e2)))) ∧ Pur w4 wx)
      case first =>
        have SX4 := SX w4 (P1.trans p34)
        have y0 : w4.cell? ⟨xb, 0, none⟩ = _ := bk_cell hb4 0 _ rfl
        clear SX
        rcases sr with _ | _
        · go_wp2_with fail
          refine SX4.mono ?_
          rintro e w5 ⟨rfl, p5⟩
          clear SX4
          go_wp2
          go_meet
          exact ⟨rfl, p5⟩
        go_wp2_with fail
        refine SX4.mono ?_
        rintro e w5 ⟨rfl, p5⟩
        have hb5 := bk_pur hb4 p5
        have y1 : w5.cell? ⟨xb, 1, none⟩ = _ := bk_cell hb5 1 _ rfl
        have LX5 := LX w5 (P1.trans (p34.trans p5))
        clear SX4 y0 LX
        rcases lr with _ | _
        · go_wp2_with fail
          refine LX5.mono ?_
          rintro e w6 ⟨rfl, p6⟩
          clear LX5
          go_wp2
          go_meet
          exact ⟨rfl, p5.trans p6⟩
        go_wp2_with fail
        refine LX5.mono ?_
        rintro e w6 ⟨rfl, p6⟩
        have hb6 := bk_pur hb5 p6
        have q0 : w6.cell? ⟨xb, 0, none⟩ = _ := bk_cell hb6 0 _ rfl
        have q1 : w6.cell? ⟨xb, 1, none⟩ = _ := bk_cell hb6 1 _ rfl
        clear LX5 y1
        rcases e1 with _ | _ <;> rcases e2 with _ | _
        all_goals
          go_wp2
          go_meet
          exact ⟨rfl, p5.trans p6⟩
      case rest =>
      obtain ⟨rfl, p5⟩ := hcut
      obtain ⟨ok, hok⟩ : ∃ b, (sr && (lr && !(e1 && e2))) = b := ⟨_, rfl⟩
      rw [hok] at HG
      simp only [hok]
      clear SX LX he1 he2 hok
      have p35 := p34.trans p5
      rcases ok with _ | _
      · have HG2 := Lib.hid (show R = false by rw [HG.out]; rfl)
        clear HG
        go_wp2
        go_ret
        exact ⟨by rw [HG2.out]; rfl, P1.trans p35⟩
      have hbc := bk_pur hb4 p5
      by_cases hi0 : i = 0
      · subst hi0
        have HG2 := Lib.hid (show R = exGo (prevE ex 1) (ex.drop 1) by rw [HG.out]; rfl)
        clear HG
        go_upto_region 9 with (fail)
        refine wp_region_pur (by kernel_rfl) (by kernel_rfl) ?_
        repeat (go_big_quiet_step (fail))
        refine wpQuiet_nil ?_
        intro wq hq
        go_wp2
        go_roundw
        case rel => exact ⟨1, by omega, rfl, hpr.trans (p35.trans hq), HG2⟩
        case measure => simp [intOf] <;> omega
      · obtain ⟨k, rfl⟩ : ∃ k, i = k + 1 := ⟨i - 1, by omega⟩
        obtain ⟨y, hy⟩ : ∃ y, ex[k]? = some y := ⟨_, List.getElem?_eq_getElem (by omega)⟩
        obtain ⟨g', o', yp, yq, he', -, HC'⟩ := h0.at hy
        cases he'
        have HP := Lib.hid (show R = (exLt y ⟨xs, xl, xv, xa⟩ && exGo (prevE ex (k + 1 + 1)) (ex.drop (k + 1 + 1))) by
          rw [HG.out]; simp only [prevE, Nat.add_eq_zero_iff, Nat.succ_ne_self, and_false, if_false, Nat.add_sub_cancel, hy, Bool.true_and])
        obtain ⟨lt, hlt2⟩ : ∃ b, exLt y ⟨xs, xl, xv, xa⟩ = b := ⟨_, rfl⟩
        have CG := cfE_ge y ⟨xs, xl, xv, xa⟩
        rw [hlt2] at HP CG
        obtain ⟨ys, yl, yv, ya⟩ := y
        have K : ∀ z : PW wc, z.to.cell? ⟨g, o + k * 5, none⟩ = some (.string ⟨ys.toArray⟩) := fun z => (HC' z.to (hpr.trans (p35.trans z.pur))).1
        have K1 : ∀ z : PW wc, z.to.cell? ⟨g, o + k * 5 + 1, none⟩ = some (.string ⟨yl.toArray⟩) := fun z => (HC' z.to (hpr.trans (p35.trans z.pur))).2.1
        have X0 : ∀ z : PW wc, z.to.cell? ⟨xb, 0, none⟩ = some (.string ⟨xs.toArray⟩) := fun z => bk_cell (bk_pur hbc z.pur) 0 _ rfl
        have X1 : ∀ z : PW wc, z.to.cell? ⟨xb, 1, none⟩ = some (.string ⟨xl.toArray⟩) := fun z => bk_cell (bk_pur hbc z.pur) 1 _ rfl
        have N2 : ∀ z : PW wc, z.to.cell? ⟨nb, 2, none⟩ = some (.slice (some ⟨g, o, none⟩) ex.length ec) := fun z => bk_cell (bk_pur hb0 (hpr.trans (p35.trans z.pur))) 2 _ rfl
        have w1' : IntKind.i64.wrap (((k + 1 : Nat) : Int) - 1) = (k : Int) := by
          rw [show ((k + 1 : Nat) : Int) - 1 = k by omega]; exact IntWalk.i64_in _ (by omega)
        have nk3 : (k : Int) < ex.length := by omega
        have nk4 : (0 : Int) < (k : Int) + 1 := by omega
        have C1 := fun W => compare_any ys xs W
        have C2 := fun W => compare_any yl xl W
        have OR := fun g W => or_any (cmpS ys xs) (cmpS yl xl) g W
        unfold cfE at CG
        dsimp only at CG
        generalize cmpS ys xs = ca' at *
        generalize cmpS yl xl = cb' at *
        clear HG HC HC' hy hlt2 hb3 hb4
        go_upto_region 9 with (fail)
        refine wp_region_pur_tail 23 (by kernel_rfl) (by kernel_rfl) ?_
        simp only [List.take_succ_cons, List.take_zero, List.drop_succ_cons, List.drop_zero]
        repeat (go_big_quiet_step ((first | with_reducible exact quiet_eq (C1 _) | with_reducible exact quiet_eq (C2 _))))
        refine wpQuiet_nil ?_
        intro wq hq
        clear K K1 X0 X1 N2 C1 C2
        have OQ := OR _ _ (bk_cell (bk_new wq (.cells #[.int .i64 ca', .int .i64 cb'] 3)) 0 _ rfl) (bk_cell (bk_new wq (.cells #[.int .i64 ca', .int .i64 cb'] 3)) 1 _ rfl)
        generalize or2 ca' cb' = cc' at *
        have pq := (p35.trans hq).alloc (.cells #[.int .i64 ca', .int .i64 cb'] 3)
        rcases lt with _ | _
        · have HG2 := Lib.hid (show R = false by rw [HP.out]; rfl)
          have CG' : (0 : Int) ≤ cc' := by simpa using CG
          clear HP CG OR
          go_wp2_with (go_at_call 71; refine OQ.mono ?_; rintro e w7 ⟨rfl, rfl⟩)
          go_ret
          exact ⟨by rw [HG2.out]; rfl, P1.trans pq⟩
        · have HG2 := Lib.hid (show R = exGo (prevE ex (k + 1 + 1)) (ex.drop (k + 1 + 1)) by rw [HP.out]; rfl)
          have CG' : ¬ (0 : Int) ≤ cc' := by simpa using CG
          clear HP CG OR
          go_wp2_with (go_at_call 71; refine OQ.mono ?_; rintro e w7 ⟨rfl, rfl⟩)
          go_roundw
          case rel => exact ⟨k + 1 + 1, by omega, by go_num, hpr.trans pq, HG2⟩
          case measure => simp [intOf]; omega
    · have hi2 : i = ex.length := by omega
      subst hi2
      have HD := Lib.hid (show R = true by rw [H.out, List.drop_length]; unfold exGo; rfl)
      have hlt' : ¬ ((ex.length : Nat) : Int) < ex.length := by omega
      clear H hlt hi HE
      go_wp2
      go_ret
      exact ⟨by rw [HD.out]; rfl, P1⟩
end Te
end Go.Proofs.YtigfcchblfnnbaaGreatDoor
