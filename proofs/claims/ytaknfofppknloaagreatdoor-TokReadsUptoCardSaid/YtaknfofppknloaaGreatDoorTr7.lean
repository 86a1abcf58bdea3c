/- Layer 2, the document's answer: attributes. -/
import Derived.Test.YtaknfofppknloaaGreatDoorTr6
import Derived.Test.YtaknfofppknloaaGreatDoorTk10
namespace Go.Proofs.YtaknfofppknloaaGreatDoor
open Go Go.RowKit
set_option linter.all false
namespace Tk
variable {w : World} {r : Ro} {cs : Cs} {i e : Nat} {wh : Nat × Nat}
/-- how the attributes end: a new row of them -/
def RAtts (w : World) (r : Ro) (cs : Cs) (i : Nat) (wh : Nat × Nat) (q : R (List Attr)) (e : Ending) (w' : World) : Prop := match q with
  | .ok (l, z) => ∃ v, e = .returned v ∧ w'.ownsRow w.heap.size 40 4 v l.length ((l.map (Attr.fin cs)).flatMap AttrV.cells) ∧ ∃ j, cs.drop j = z ∧ i ≤ j ∧ j ≤ cs.length ∧ Sc w' r cs j 0 wh ∧ Chg [r.p] w w'
  | .error (k, n) => (∃ a m c, e = .returned (.slice a m c)) ∧ ∃ j, i ≤ j ∧ j ≤ cs.length + 1 ∧ n ≠ 0 ∧ Sc w' r cs j n (place cs (cs.length - k)) ∧ Chg [r.p] w w'
theorem Sc.grown {w' : World} {o : Option Nat} (h : Sc w r cs i e wh) (g : w.grownBy w' o) (hn : ∀ b, o = some b → b ∉ r.p :: r.row) : Sc w' r cs i e wh := by
  have hm : ∀ b, b ∈ r.p :: r.row → b < w.heap.size → w'.heap[b]? = w.heap[b]? := fun b hb hlt => g.block b hlt (fun e => by
    rcases o with _ | o
    · cases e
    · exact hn o rfl (by cases e; exact hb))
  have hr : ∀ b, b ∈ r.row → b ∈ r.p :: r.row := fun b hb => List.mem_cons_of_mem _ hb
  refine ⟨(hm r.p (by simp) h.lt).trans h.own, row_same h.text fun g hg => hm g (hr g ?_) (h.text.lt g hg).2, row_same h.chars fun g hg => hm g (hr g ?_) (h.chars.lt g hg).2, row_same h.spots fun g hg => hm g (hr g ?_) (h.spots.lt g hg).2, h.apart, h.clen, h.okcs⟩
  · simp [Ro.row, hg]
  · simp [Ro.row, hg]
  · simp [Ro.row, hg]
theorem Sc.all_lt (h : Sc w r cs i e wh) : ∀ b ∈ r.p :: r.row, b < w.heap.size := by
  intro b hb
  unfold Ro.row at hb
  simp only [List.mem_cons, List.mem_append, mem_own] at hb
  rcases hb with rfl | hb | hb | hb
  · exact h.lt
  · exact (h.text.lt b hb).2
  · exact (h.chars.lt b hb).2
  · exact (h.spots.lt b hb).2
theorem Sc.set_other (h : Sc w r cs i e wh) {a : Addr} (ha : a.block ∉ r.p :: r.row) (v : Value) : Sc (w.setCell a v) r cs i e wh := by
  have hm : ∀ b, b ∈ r.p :: r.row → (w.setCell a v).heap[b]? = w.heap[b]? := fun b hb => RowKit.Below.heap_setCell _ _ _ _ (fun e => ha (by rw [← e] at *; exact hb))
  have hr : ∀ b, b ∈ r.row → b ∈ r.p :: r.row := fun b hb => List.mem_cons_of_mem _ hb
  refine ⟨(hm r.p (by simp)).trans h.own, row_same h.text fun g hg => hm g (hr g ?_), row_same h.chars fun g hg => hm g (hr g ?_), row_same h.spots fun g hg => hm g (hr g ?_), h.apart, h.clen, h.okcs⟩
  · simp [Ro.row, hg]
  · simp [Ro.row, hg]
  · simp [Ro.row, hg]
set_option maxRecDepth 100000 in
set_option maxHeartbeats 16000000 in
theorem rattrs_any (h : Sc w r cs i 0 wh) (hi : i ≤ cs.length) : Calls Tryz.prog 38 #[.pointer (some ⟨r.p, 0, none⟩)] w fun e w' => RAtts w r cs i wh (attrs (cs.drop i)) e w' := by
  have hcl := h.clen
  have hps := h.lt
  go_enter Tryz.func38, Tryz.ntmps38
  go_wp2
  go_loopw [3] (fun v wr => (∃ (j f : Nat) (acc : List Attr), i ≤ j ∧ j ≤ cs.length ∧ cs.length < j + f ∧ Sc wr r cs j 0 wh ∧ Chg [r.p] w wr ∧ acc.length + i ≤ j ∧ wr.ownsRow w.heap.size 40 4 v acc.length ((acc.map (Attr.fin cs)).flatMap AttrV.cells) ∧ Hid (attrs (cs.drop i) = (attrsGo f (cs.drop j)).and fun l z => .ok (acc ++ l, z))) ∨
    (∃ (j k n : Nat), i ≤ j ∧ j ≤ cs.length + 1 ∧ n ≠ 0 ∧ (∃ a m c, v = .slice a m c) ∧ Sc wr r cs j n (place cs (cs.length - k)) ∧ Chg [r.p] w wr ∧ Hid (attrs (cs.drop i) = .error (k, n)))) (fun _ wr => if natAt wr ⟨r.p, 4, none⟩ = 0 then cs.length + 2 - natAt wr ⟨r.p, 3, none⟩ else 0)
  case atStart => exact .inl ⟨i, (cs.drop i).length + 1, [], by omega, hi, by rw [List.length_drop]; omega, h, Chg.refl _ _, by simp, World.ownsRow_nil _ _ _ _, Lib.hid (by unfold attrs; rcases attrsGo ((cs.drop i).length + 1) (cs.drop i) with x | ⟨x, z⟩ <;> rfl)⟩
  case round =>
    rcases hrel with ⟨j, f, acc, j1, j2, j3, k3, k4, hal, hown, H⟩ | ⟨j, k, n, j1, j2, hn, ⟨va, vm, vc, rfl⟩, h3, h4, H⟩
    · obtain ⟨f, rfl⟩ : ∃ g, f = g + 1 := ⟨f - 1, by omega⟩
      have hsz := k4.size
      have e3 := k3.nat
      have c3 := k3.c3
      have c4 := k3.c4
      have e4 := k3.err
      have BL := rblanks_any k3 (by omega)
      rw [show decide ((blanks (cs.drop j)).length < (cs.drop j).length) = blk (cs.drop j) from rfl] at BL
      have hlow : ∀ (u : Value) (w' : World) n xs, w'.ownsRow w.heap.size 40 4 u n xs → ∀ g, u.ownBlock = some g → g ∉ [r.p] := fun u w' n xs hx g hg hm => by have := (hx.lt g hg).1; simp only [List.mem_singleton] at hm; omega
      rcases hb1 : blk (cs.drop j) with _ | _
      · -- no blanks: the end
        rw [hb1] at BL
        have HS := Lib.hid (show attrs (cs.drop i) = .ok (acc, blanks (cs.drop j)) by
          have hno : ¬ ((blanks (cs.drop j)).length < (cs.drop j).length ∧ hd begins (blanks (cs.drop j)) = true) := fun g => by
            have := g.1
            simp only [blk, decide_eq_false_iff_not] at hb1
            exact hb1 this
          rw [H.out, attrsGo, if_neg hno]
          simp)
        go_wp2_with fail
        refine BL.mono ?_
        rintro e w1 ⟨rfl, i1, a1, a2, a3, h1, c1⟩
        have hown1 := row_chg hown c1 (hlow _ _ _ _ hown)
        go_wp2
        go_ret
        rw [HS.out]
        exact ⟨_, rfl, hown1, i1, a1, by omega, by omega, h1, k4.trans c1⟩
      rw [hb1] at BL
      rcases g2 : hd begins (blanks (cs.drop j)) with _ | _
      · -- no name behind them: the end
        have HS := Lib.hid (show attrs (cs.drop i) = .ok (acc, blanks (cs.drop j)) by
          have hno : ¬ ((blanks (cs.drop j)).length < (cs.drop j).length ∧ hd begins (blanks (cs.drop j)) = true) := fun g => by
            rw [g2] at g
            cases g.2
          rw [H.out, attrsGo, if_neg hno]
          simp)
        go_wp2_with fail
        refine BL.mono ?_
        rintro e w1 ⟨rfl, i1, a1, a2, a3, h1, c1⟩
        rw [← a1] at g2
        replace a1 := Lib.hid a1
        have c3 := h1.c3
        have P1 := c_any h1 i1 (by omega)
        have B1 := fun w => rbegins_any (pk (cs.drop i1)) w (on_pk' begins _ w)
        rw [on_pk, g2] at B1
        go_wp2_with fail
        refine P1.mono ?_
        rintro e w2 ⟨rfl, rfl⟩
        go_wp2_with fail
        refine (B1 _).mono ?_
        rintro e w3 ⟨rfl, rfl⟩
        have hown1 := row_chg hown c1 (hlow _ _ _ _ hown)
        go_wp2
        go_ret
        rw [HS.out]
        exact ⟨_, rfl, hown1, i1, a1.out, by omega, by omega, h1, k4.trans c1⟩
      have g1 : (blanks (cs.drop j)).length < (cs.drop j).length := by simpa [blk] using hb1
      have HG := Lib.hid (show attrsGo (f + 1) (cs.drop j) = (name (blanks (cs.drop j))).and fun nm r1 => (takeC 61 (blanks r1)).and fun _ r2 => (value (blanks r2)).and fun v r3 => (attrsGo f r3).and fun l z => .ok (⟨nm, v, (blanks (cs.drop j)).length⟩ :: l, z) by
        rw [attrsGo, if_pos ⟨g1, g2⟩])
      clear hb1
      go_wp2_with fail
      refine BL.mono ?_
      rintro e w1 ⟨rfl, i1, a1, a2, a3, h1, c1⟩
      rw [← a1] at g1 g2 HG
      clear a1
      have c3 := h1.c3
      have P1 := c_any h1 i1 (by omega)
      have B1 := fun w => rbegins_any (pk (cs.drop i1)) w (on_pk' begins _ w)
      rw [on_pk, g2] at B1
      have G1 := k4.trans c1
      have hown1 := row_chg hown c1 (hlow _ _ _ _ hown)
      rw [List.length_drop, List.length_drop] at g1
      have hi1 : i1 ≤ cs.length := by omega
      clear BL
      go_wp2_with fail
      refine P1.mono ?_
      rintro e w2 ⟨rfl, rfl⟩
      go_wp2_with fail
      refine (B1 _).mono ?_
      rintro e w3 ⟨rfl, rfl⟩
      -- the attribute's own block
      have c2 := h1.c2
      obtain ⟨ga, gc, hav, hgc, hga, hsp⟩ := h1.ashape
      rw [hav] at c2
      obtain ⟨s0, s1⟩ := hsp i1 hi1
      have hi1' : (i1 : Int) < (cs.length : Int) + 1 := by omega
      clear hsp P1 B1 hav
      have hxa := (Pur.refl w1).alloc (.cells #[.string ⟨#[]⟩, .string ⟨#[]⟩, .int .i64 0, .int .i64 0] 40)
      have z2 := c2
      have z3 := c3
      have zs0 := s0
      have zs1 := s1
      rw [← hxa.cell (by exact h1.lt)] at z2 z3
      rw [← hxa.cell (by exact hga)] at zs0 zs1
      go_wp2
      go_region
      obtain ⟨w5, hw5⟩ : ∃ w5, w5 = (w1.alloc (.cells #[.string ⟨#[]⟩, .string ⟨#[]⟩, .int .i64 ((place cs i1).1 : Int), .int .i64 ((place cs i1).2 : Int)] 40)).drew := ⟨_, rfl⟩
      have p5 : Pur w1 w5 := by rw [hw5]; exact ((Pur.refl _).alloc _).drew
      have K5 : w5.heap[w1.heap.size]? = some (.cells #[.string ⟨#[]⟩, .string ⟨#[]⟩, .int .i64 ((place cs i1).1 : Int), .int .i64 ((place cs i1).2 : Int)] 40) := by rw [hw5]; exact bk_new _ _
      rw [← hw5]
      clear hw5
      have h5 := h1.pur p5
      have G5 := G1.pur p5
      have hown5 := row_pur hown1 p5
      have hLa : w1.heap.size ∉ r.p :: r.row := fun hm => by have := h1.all_lt _ hm; omega
      have hLw : w.heap.size ≤ w1.heap.size := G1.size
      have hLo : ∀ g, u3.ownBlock = some g → g ≠ w1.heap.size := fun g hg e => by have := (hown1.lt g hg).2; omega
      have hLp : r.p < w1.heap.size := h1.lt
      generalize w1.heap.size = LB at *
      clear hxa z2 z3 zs0 zs1 c2 s0 s1 hown hown1 c1 G1 p5 h1 c3 c4
      have NM := rname_any h5 hi1
      rcases hn : name (cs.drop i1) with ⟨k, n⟩ | ⟨nm, r1⟩
      · rw [hn] at NM HG
        have HS := Lib.hid (show attrs (cs.drop i) = .error (k, n) by rw [H.out, HG.out]; rfl)
        clear HG H hn
        go_wp2_with fail
        refine NM.mono ?_
        rintro e w6 ⟨⟨_, rfl, ul, rfl, hul⟩, i6, b6, d6, hn, h6, c6⟩
        clear NM
        have K6 := bk_chg K5 c6 (by simp; omega)
        have G6 := G5.trans c6
        have hown6 := row_chg hown5 c6 (hlow _ _ _ _ hown5)
        have x0 := bk_cell K6 0 _ rfl
        have f0 := bk_free K6 0
        have K7 := bk_set K6 0 (.string ⟨(ul).toArray⟩)
        have h7 := h6.set_other (a := ⟨LB, 0, none⟩) hLa (.string ⟨(ul).toArray⟩)
        have G7 := G6.setCell (a := ⟨LB, 0, none⟩) (.inr hLw) (.string ⟨(ul).toArray⟩)
        have hown7 := row_set hown6 (a := ⟨LB, 0, none⟩) (fun e => hLo _ e rfl) (.string ⟨(ul).toArray⟩)
        clear h5 K5 G5 hown5 c6
        have B8 := rblanks_any h7 (by omega)
        go_wp2_with fail
        refine B8.mono ?_
        rintro e w8 ⟨rfl, i8, -, b8, d8, h8, c8⟩
        clear B8
        have K8 := bk_chg K7 c8 (by simp; omega)
        have G8 := G7.trans c8
        have hown8 := row_chg hown7 c8 (hlow _ _ _ _ hown7)
        clear x0 f0 K6 K7 G6 G7 hown6 hown7 h6 h7 c8
        have T9 := rone_err h8 hn (by omega) 61
        go_wp2_with fail
        refine T9.mono ?_
        rintro e w9 ⟨rfl, i9, b9, d9, h9, c9⟩
        clear T9
        have K9 := bk_chg K8 c9 (by simp; omega)
        have G9 := G8.trans c9
        have hown9 := row_chg hown8 c9 (hlow _ _ _ _ hown8)
        have B10 := rblanks_any h9 (by omega)
        go_wp2_with fail
        refine B10.mono ?_
        rintro e w10 ⟨rfl, i10, -, b10, d10, h10, c10⟩
        clear B10
        have K10 := bk_chg K9 c10 (by simp; omega)
        have G10 := G9.trans c10
        have hown10 := row_chg hown9 c10 (hlow _ _ _ _ hown9)
        have c4 := h10.c4
        have dn : ((n : Int) == 0) = false := by rw [beq_eq_false_iff_ne]; omega
        have c3 := h10.c3
        have c4 := h10.c4
        have y0 := bk_cell K10 0 (.string ⟨(ul).toArray⟩) rfl
        have y1 := bk_cell K10 1 (.string ⟨([]).toArray⟩) rfl
        have y2 := bk_cell K10 2 (.int .i64 ((place cs i1).1 : Int)) rfl
        have y3 := bk_cell K10 3 (.int .i64 ((place cs i1).2 : Int)) rfl
        clear K8 K9 G8 G9 hown8 hown9 h8 h9 c9 c10
        go_wp2_with (at_builtin; refine append_new w10 rfl _ _ 36 40 4 48 attr_info Tryz.underlying36 (by decide) (by decide) (by rfl) w.heap.size _ acc.length _ _ _ [.string ⟨(ul).toArray⟩, .string ⟨([]).toArray⟩, .int .i64 ((place cs i1).1 : Int), .int .i64 ((place cs i1).2 : Int)] rfl ?c1 (by rfl) w10.heap.size (by simp [World.setCell]) (by rfl) hown10 (by omega) G10.size ?_)
        case c1 => intro u hu; simp only [List.mem_cons, List.not_mem_nil, or_false] at hu; rcases hu with rfl | rfl | rfl | rfl <;> rfl
        intro v12 w12 hown12 hg12 _
        obtain ⟨va, vc, hv12⟩ := row_shape hown12
        have hlt12 : ∀ b, u3.ownBlock = some b → w.heap.size ≤ b := fun b hb => (hown10.lt b hb).1
        have G12 : Chg [r.p] w w12 := (G10.alloc _).grown hg12 (fun b hb => .inr (hlt12 b hb))
        have h12 : Sc w12 r cs i10 n (place cs (cs.length - k)) := (h10.pur ((Pur.refl _).alloc _)).grown hg12 (fun b hb hm => by have q1 := hlt12 b hb; have q2 := h.all_lt b hm; omega)
        have e12 := h12.nat
        have r12 := h12.err
        go_wp2
        go_roundw
        case rel => exact .inr ⟨i10, k, n, by omega, by omega, hn, ⟨va, _, vc, hv12⟩, h12, G12, HS⟩
        case measure => rw [e3, e4, r12, if_pos rfl, if_neg hn]; omega
      rw [hn] at NM HG
      simp only [and_ok] at HG
      clear hn
      go_wp2_with fail
      refine NM.mono ?_
      rintro e w6 ⟨rfl, i6, a6, b6, d6, h6, c6⟩
      clear NM
      have K6 := bk_chg K5 c6 (by simp; omega)
      have G6 := G5.trans c6
      have hown6 := row_chg hown5 c6 (hlow _ _ _ _ hown5)
      have x0 := bk_cell K6 0 _ rfl
      have f0 := bk_free K6 0
      have K7 := bk_set K6 0 (.string ⟨(narrow nm).toArray⟩)
      have h7 := h6.set_other (a := ⟨LB, 0, none⟩) hLa (.string ⟨(narrow nm).toArray⟩)
      have G7 := G6.setCell (a := ⟨LB, 0, none⟩) (.inr hLw) (.string ⟨(narrow nm).toArray⟩)
      have hown7 := row_set hown6 (a := ⟨LB, 0, none⟩) (fun e => hLo _ e rfl) (.string ⟨(narrow nm).toArray⟩)
      clear h5 K5 G5 hown5 c6
      have B8 := rblanks_any h7 (by omega)
      rw [a6] at B8
      clear a6
      go_wp2_with fail
      refine B8.mono ?_
      rintro e w8 ⟨rfl, i8, a8, b8, d8, h8, c8⟩
      clear B8
      have K8 := bk_chg K7 c8 (by simp; omega)
      have G8 := G7.trans c8
      have hown8 := row_chg hown7 c8 (hlow _ _ _ _ hown7)
      clear x0 f0 K6 K7 G6 G7 hown6 hown7 h6 h7 c8
      have T9 := rone_any h8 (by omega) 61
      rw [a8] at T9
      clear a8
      rcases ht : takeC 61 (blanks r1) with ⟨k, n⟩ | ⟨u, r2⟩
      · rw [ht] at T9 HG
        have HS := Lib.hid (show attrs (cs.drop i) = .error (k, n) by rw [H.out, HG.out]; rfl)
        clear HG H ht
        go_wp2_with fail
        refine T9.mono ?_
        rintro e w9 ⟨⟨_, rfl, rfl⟩, i9, b9, d9, hn, h9, c9⟩
        clear T9
        have K9 := bk_chg K8 c9 (by simp; omega)
        have G9 := G8.trans c9
        have hown9 := row_chg hown8 c9 (hlow _ _ _ _ hown8)
        have B10 := rblanks_any h9 (by omega)
        go_wp2_with fail
        refine B10.mono ?_
        rintro e w10 ⟨rfl, i10, -, b10, d10, h10, c10⟩
        clear B10
        have K10 := bk_chg K9 c10 (by simp; omega)
        have G10 := G9.trans c10
        have hown10 := row_chg hown9 c10 (hlow _ _ _ _ hown9)
        have c4 := h10.c4
        have dn : ((n : Int) == 0) = false := by rw [beq_eq_false_iff_ne]; omega
        have c3 := h10.c3
        have c4 := h10.c4
        have y0 := bk_cell K10 0 (.string ⟨(narrow nm).toArray⟩) rfl
        have y1 := bk_cell K10 1 (.string ⟨([]).toArray⟩) rfl
        have y2 := bk_cell K10 2 (.int .i64 ((place cs i1).1 : Int)) rfl
        have y3 := bk_cell K10 3 (.int .i64 ((place cs i1).2 : Int)) rfl
        clear K8 K9 G8 G9 hown8 hown9 h8 h9 c9 c10
        go_wp2_with (at_builtin; refine append_new w10 rfl _ _ 36 40 4 48 attr_info Tryz.underlying36 (by decide) (by decide) (by rfl) w.heap.size _ acc.length _ _ _ [.string ⟨(narrow nm).toArray⟩, .string ⟨([]).toArray⟩, .int .i64 ((place cs i1).1 : Int), .int .i64 ((place cs i1).2 : Int)] rfl ?c1 (by rfl) w10.heap.size (by simp [World.setCell]) (by rfl) hown10 (by omega) G10.size ?_)
        case c1 => intro u hu; simp only [List.mem_cons, List.not_mem_nil, or_false] at hu; rcases hu with rfl | rfl | rfl | rfl <;> rfl
        intro v12 w12 hown12 hg12 _
        obtain ⟨va, vc, hv12⟩ := row_shape hown12
        have hlt12 : ∀ b, u3.ownBlock = some b → w.heap.size ≤ b := fun b hb => (hown10.lt b hb).1
        have G12 : Chg [r.p] w w12 := (G10.alloc _).grown hg12 (fun b hb => .inr (hlt12 b hb))
        have h12 : Sc w12 r cs i10 n (place cs (cs.length - k)) := (h10.pur ((Pur.refl _).alloc _)).grown hg12 (fun b hb hm => by have q1 := hlt12 b hb; have q2 := h.all_lt b hm; omega)
        have e12 := h12.nat
        have r12 := h12.err
        go_wp2
        go_roundw
        case rel => exact .inr ⟨i10, k, n, by omega, by omega, hn, ⟨va, _, vc, hv12⟩, h12, G12, HS⟩
        case measure => rw [e3, e4, r12, if_pos rfl, if_neg hn]; omega
      rw [ht] at T9 HG
      simp only [and_ok] at HG
      clear ht
      go_wp2_with fail
      refine T9.mono ?_
      rintro e w9 ⟨rfl, i9, a9, b9, d9, h9, c9⟩
      clear T9
      have K9 := bk_chg K8 c9 (by simp; omega)
      have G9 := G8.trans c9
      have hown9 := row_chg hown8 c9 (hlow _ _ _ _ hown8)
      have B10 := rblanks_any h9 (by omega)
      rw [a9] at B10
      clear a9 K8 G8 hown8 h8 c9
      go_wp2_with fail
      refine B10.mono ?_
      rintro e w10 ⟨rfl, i10, a10, b10, d10, h10, c10⟩
      clear B10
      have K10 := bk_chg K9 c10 (by simp; omega)
      have G10 := G9.trans c10
      have hown10 := row_chg hown9 c10 (hlow _ _ _ _ hown9)
      have V11 := rvalue_any h10 (by omega)
      rw [a10] at V11
      clear a10 K9 G9 hown9 h9 c10
      have c4 := h10.c4
      rcases hv : value (blanks r2) with ⟨k, n⟩ | ⟨v, r3⟩
      · rw [hv] at V11 HG
        have HS := Lib.hid (show attrs (cs.drop i) = .error (k, n) by rw [H.out, HG.out]; rfl)
        clear HG H hv
        go_wp2_with fail
        refine V11.mono ?_
        rintro e w11 ⟨⟨_, rfl, ul, rfl, hul⟩, i11, b11, d11, hn, h11, c11⟩
        clear V11
        have K11 := bk_chg K10 c11 (by simp; omega)
        have G11 := G10.trans c11
        have hown11 := row_chg hown10 c11 (hlow _ _ _ _ hown10)
        have x1 := bk_cell K11 1 _ rfl
        have f1 := bk_free K11 1
        have K12 := bk_set K11 1 (.string ⟨(ul).toArray⟩)
        have h12 := h11.set_other (a := ⟨LB, 1, none⟩) hLa (.string ⟨(ul).toArray⟩)
        have G12 := G11.setCell (a := ⟨LB, 1, none⟩) (.inr hLw) (.string ⟨(ul).toArray⟩)
        have hown12 := row_set hown11 (a := ⟨LB, 1, none⟩) (fun e => hLo _ e rfl) (.string ⟨(ul).toArray⟩)
        have c3 := h12.c3
        have c4 := h12.c4
        have y0 := bk_cell K12 0 (.string ⟨(narrow nm).toArray⟩) rfl
        have y1 := bk_cell K12 1 (.string ⟨(ul).toArray⟩) rfl
        have y2 := bk_cell K12 2 (.int .i64 ((place cs i1).1 : Int)) rfl
        have y3 := bk_cell K12 3 (.int .i64 ((place cs i1).2 : Int)) rfl
        clear K10 K11 G10 G11 hown10 hown11 h10 h11 c11
        go_wp2_with (at_builtin; refine append_new (w11.setCell ⟨LB, 1, none⟩ (.string ⟨(ul).toArray⟩)) rfl _ _ 36 40 4 48 attr_info Tryz.underlying36 (by decide) (by decide) (by rfl) w.heap.size _ acc.length _ _ _ [.string ⟨(narrow nm).toArray⟩, .string ⟨(ul).toArray⟩, .int .i64 ((place cs i1).1 : Int), .int .i64 ((place cs i1).2 : Int)] rfl ?c1 (by rfl) w11.heap.size (by simp [World.setCell]) (by rfl) hown12 (by omega) G12.size ?_)
        case c1 => intro u hu; simp only [List.mem_cons, List.not_mem_nil, or_false] at hu; rcases hu with rfl | rfl | rfl | rfl <;> rfl
        intro v12 w13 hown13 hg12 _
        obtain ⟨va, vc, hv12⟩ := row_shape hown13
        have hlt12 : ∀ b, u3.ownBlock = some b → w.heap.size ≤ b := fun b hb => (hown12.lt b hb).1
        have G12 : Chg [r.p] w w13 := (G12.alloc _).grown hg12 (fun b hb => .inr (hlt12 b hb))
        have h12 : Sc w13 r cs i11 n (place cs (cs.length - k)) := (h12.pur ((Pur.refl _).alloc _)).grown hg12 (fun b hb hm => by have q1 := hlt12 b hb; have q2 := h.all_lt b hm; omega)
        have e12 := h12.nat
        have r12 := h12.err
        go_wp2
        go_roundw
        case rel => exact .inr ⟨i11, k, n, by omega, by omega, hn, ⟨va, _, vc, hv12⟩, h12, G12, HS⟩
        case measure => rw [e3, e4, r12, if_pos rfl, if_neg hn]; omega
      rw [hv] at V11 HG
      simp only [and_ok] at HG
      clear hv
      go_wp2_with fail
      refine V11.mono ?_
      rintro e w11 ⟨rfl, i11, a11, b11, d11, h11, c11⟩
      replace a11 := Lib.hid a11
      clear V11
      have K11 := bk_chg K10 c11 (by simp; omega)
      have G11 := G10.trans c11
      have hown11 := row_chg hown10 c11 (hlow _ _ _ _ hown10)
      have x1 := bk_cell K11 1 _ rfl
      have f1 := bk_free K11 1
      have K12 := bk_set K11 1 (.string ⟨(narrow v).toArray⟩)
      have h12 := h11.set_other (a := ⟨LB, 1, none⟩) hLa (.string ⟨(narrow v).toArray⟩)
      have G12 := G11.setCell (a := ⟨LB, 1, none⟩) (.inr hLw) (.string ⟨(narrow v).toArray⟩)
      have hown12 := row_set hown11 (a := ⟨LB, 1, none⟩) (fun e => hLo _ e rfl) (.string ⟨(narrow v).toArray⟩)
      have HS := Lib.hid (attrs_step H.out HG.out)
      have hacc : (((acc ++ [(⟨nm, v, (cs.drop i1).length⟩ : Attr)]).map (Attr.fin cs)).flatMap AttrV.cells) = ((acc.map (Attr.fin cs)).flatMap AttrV.cells) ++ [.string ⟨(narrow nm).toArray⟩, .string ⟨(narrow v).toArray⟩, .int .i64 ((place cs i1).1 : Int), .int .i64 ((place cs i1).2 : Int)] := by
        have hq : cs.length - (cs.length - i1) = i1 := by omega
        simp [AttrV.cells, Attr.fin, hq]
      have c3 := h12.c3
      have c4 := h12.c4
      have y0 := bk_cell K12 0 (.string ⟨(narrow nm).toArray⟩) rfl
      have y1 := bk_cell K12 1 (.string ⟨(narrow v).toArray⟩) rfl
      have y2 := bk_cell K12 2 (.int .i64 ((place cs i1).1 : Int)) rfl
      have y3 := bk_cell K12 3 (.int .i64 ((place cs i1).2 : Int)) rfl
      clear H HG K10 K11 G10 G11 hown10 hown11 h10 h11 c11
      go_wp2_with (at_builtin; refine append_new (w11.setCell ⟨LB, 1, none⟩ (.string ⟨(narrow v).toArray⟩)) rfl _ _ 36 40 4 48 attr_info Tryz.underlying36 (by decide) (by decide) (by rfl) w.heap.size _ acc.length _ _ _ [.string ⟨(narrow nm).toArray⟩, .string ⟨(narrow v).toArray⟩, .int .i64 ((place cs i1).1 : Int), .int .i64 ((place cs i1).2 : Int)] rfl ?c1 (by rfl) w11.heap.size (by simp [World.setCell]) (by rfl) hown12 (by omega) G12.size ?_)
      case c1 => intro u hu; simp only [List.mem_cons, List.not_mem_nil, or_false] at hu; rcases hu with rfl | rfl | rfl | rfl <;> rfl
      intro v12 w13 hown13 hg12 _
      obtain ⟨va, vc, hv12⟩ := row_shape hown13
      have hlt12 : ∀ b, u3.ownBlock = some b → w.heap.size ≤ b := fun b hb => (hown12.lt b hb).1
      have G12 : Chg [r.p] w w13 := (G12.alloc _).grown hg12 (fun b hb => .inr (hlt12 b hb))
      have h12 : Sc w13 r cs i11 0 wh := (h12.pur ((Pur.refl _).alloc _)).grown hg12 (fun b hb hm => by have q1 := hlt12 b hb; have q2 := h.all_lt b hm; omega)
      have e12 := h12.nat
      have r12 := h12.err
      go_wp2
      go_roundw
      case rel => exact .inl ⟨i11, f, acc ++ [⟨nm, v, (cs.drop i1).length⟩], by omega, d11, by omega, h12, G12, by simp; omega, by rw [List.length_append, hacc]; exact hown13, a11.out ▸ HS⟩
      case measure => rw [e3, e12, e4, r12, if_pos rfl, if_pos rfl]; omega
    · -- a fault has been told
      have c4 := h3.c4
      have dn : ((n : Int) == 0) = false := by rw [beq_eq_false_iff_ne]; omega
      go_wp2
      go_ret
      rw [H.out]
      exact ⟨⟨va, vm, vc, rfl⟩, j, j1, j2, hn, h3, h4⟩
end Tk
end Go.Proofs.YtaknfofppknloaaGreatDoor
