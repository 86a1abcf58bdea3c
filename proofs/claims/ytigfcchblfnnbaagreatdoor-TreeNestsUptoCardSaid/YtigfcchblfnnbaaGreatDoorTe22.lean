/- Layer 3: right. -/
import Derived.Test.YtigfcchblfnnbaaGreatDoorTe21
namespace Go.Proofs.YtigfcchblfnnbaaGreatDoor
open Go Go.RowKit
set_option linter.all false
namespace Te
open Tk (Cs ints ints_append ints_length append_int mem_own int_info)
theorem makeI (w : World) (N : Nat) (hN : N ≤ 1000000) :
    (Instr.makeSlice 85 (.int .i64 N) (.int .i64 N)).run Tryz.prog w = .ok (.slice (some ⟨w.heap.size, 0, none⟩) N N) (w.alloc (.cells (ints (List.replicate N 0)).toArray 3)) := by
  obtain ⟨i, hi, hz, hs, hb⟩ := info_parts int_info
  have := run_makeSlice (P := Tryz.prog) w 85 3 i (.int .i64 0) Tryz.underlying85 hi hz .i64 .i64 N N (by omega) (by omega) (by rw [hs]; simp; omega) (by rw [hb]; omega) (by omega)
  rw [this, hs]
  have e : madeCells #[Value.int .i64 0] N = (ints (List.replicate N 0)).toArray := by
    unfold madeCells ints
    apply Array.ext
    · simp
    · intro i h1 h2
      simp [Nat.mod_one]
  simp
  exact congrArg (fun cs => w.alloc (.cells cs 3)) e
theorem ints_set (d : List Nat) (i x : Nat) : (ints d).toArray.setIfInBounds i (.int .i64 (x : Int)) = (ints (d.set i x)).toArray := by
  unfold ints
  rw [List.setIfInBounds_toArray, List.map_set]
theorem ints_set1 (d : List Nat) (i x : Nat) : (ints d).toArray.setIfInBounds i (.int .i64 ((x : Int) + 1)) = (ints (d.set i (x + 1))).toArray := ints_set d i (x + 1)
theorem ints_getD (d : List Nat) (i : Nat) (h : i < d.length) : (ints d).toArray[i]? = some (.int .i64 ((d.getD i 0 : Nat) : Int)) := by
  unfold ints
  simp [List.getD_eq_getElem?_getD, List.getElem?_eq_getElem h]
/-- what the nodes ahead say of their parents -/
def Pars (ns : List NodeV) (i : Nat) : Prop := ∀ (k : Nat) m, k < i → ns[k]? = some m → -1 ≤ m.par ∧ m.par < k
theorem right_step (ns : List NodeV) (f i : Nat) (d : List Nat) (last : Int) (n : NodeV) (h : ns[i]? = some n) : rightGo ns (f + 1) i d last = ((if n.lo = [] then textR ns i n else elemR n) &&
      (match (if i = 0 then some d else (climbI ns (i + 1) last n.par).map fun p => d.set i (d.getD p 0 + 1)) with
       | none => false
       | some d' => !(decide (32 ≤ d'.getD i 0) && decide (n.lo ≠ [])) && rightGo ns f (i + 1) d' (if n.lo ≠ [] then (i : Int) else n.par))) := by
  rw [rightGo, h]
  dsimp only
  generalize (if i = 0 then some d else (climbI ns (i + 1) last n.par).map fun p => d.set i (d.getD p 0 + 1)) = z
  cases z <;> rfl
theorem climb_step (ns : List NodeV) (f : Nat) (p t : Int) : climbI ns (f + 1) p t = if p < 0 then none else if p = t then some p.toNat else climbI ns f (match ns[p.toNat]? with | some q => q.par | none => -1) t := rfl
set_option maxRecDepth 100000 in
set_option maxHeartbeats 32000000 in
theorem right_any (ns : List NodeV) (v : Value) (w : World) (hT : UW w) (h : NRead w v ns) (hB : ∀ n ∈ ns, NodeB n) :
    Calls Tryz.prog 22 #[.agg #[v]] w fun e w' => e = .returned (.bool (right ns)) ∧ Pur w w' := by
  obtain ⟨a, c, rfl⟩ := h.shape
  obtain ⟨-, hc, hm⟩ := h.len
  obtain ⟨w0, hw0⟩ : ∃ w0, w0 = w.alloc (.cells #[.slice a ns.length c] 29) := ⟨_, rfl⟩
  obtain ⟨tb, htb⟩ : ∃ tb, w.heap.size = tb := ⟨_, rfl⟩
  have hb0 : w0.heap[tb]? = some (.cells #[.slice a ns.length c] 29 (0, 0)) := by rw [hw0, ← htb]; exact bk_new w _
  have hp0 : Pur w w0 := by rw [hw0]; exact (Pur.refl w).alloc _
  have h0 := h.pur hp0
  have t0 := bk_cell hb0 0 _ rfl
  obtain ⟨R, hR⟩ : ∃ R, right ns = R := ⟨_, rfl⟩
  rw [hR]
  have HR := Lib.hid hR
  clear hR h
  by_cases hn : ns = []
  · have HE := Lib.hid (show R = false by rw [← HR.out, hn]; rfl)
    have hl0 : ns.length = 0 := by rw [hn]; rfl
    rw [hl0] at t0
    clear HR h0 hb0
    subst hn
    go_enter Tryz.func22, Tryz.ntmps22
    go_upto_region 1 with (fail)
    rw [List.length_nil] at hw0
    rw [← hw0]
    clear hw0
    go_wp2
    go_ret
    exact ⟨by rw [HE.out]; rfl, hp0⟩
  have hn1 : 0 < ns.length := List.length_pos_iff.2 hn
  obtain ⟨n0, hn0⟩ : ∃ n0, ns[0]? = some n0 := ⟨_, List.getElem?_eq_getElem hn1⟩
  have HR2 := Lib.hid (show R = (decide (ns.length ≤ 2048) && (decide (n0.par = -1) && (decide (n0.lo ≠ []) && rightGo ns (ns.length + 1) 0 (List.replicate ns.length 0) 0))) by
    rw [← HR.out]
    cases ns with
    | nil => exact absurd rfl hn
    | cons x r => simp at hn0; subst hn0; rfl)
  have d1 : ¬ (ns.length : Int) < 1 := by omega
  have d0 : (0 : Int) < ns.length := by omega
  clear HR hn
  by_cases h2 : ¬ ns.length ≤ 2048
  · have HE := Lib.hid (show R = false by rw [HR2.out, decide_eq_false h2]; rfl)
    have d2 : (2048 : Int) < ns.length := by omega
    clear HR2 h0 hb0 h2 hn0
    go_enter Tryz.func22, Tryz.ntmps22
    go_upto_region 1 with (fail)
    rw [← hw0]
    clear hw0
    go_wp2
    go_ret
    exact ⟨by rw [HE.out]; rfl, hp0⟩
  have h2 : ns.length ≤ 2048 := by omega
  have d2 : ¬ (2048 : Int) < ns.length := by omega
  obtain ⟨g, o, ea0, ec0, p0, q0, rfl, hg, HC⟩ := h0.node hn0
  obtain ⟨k0, k1, k2, k3, k4, k5, k6, -⟩ := HC w0 (Pur.refl _)
  rw [Nat.zero_mul, Nat.add_zero] at k1 k4
  by_cases h3 : ¬ n0.par = -1
  · have HE := Lib.hid (show R = false by rw [HR2.out, decide_eq_false h3, Bool.false_and, Bool.and_false])
    have d3 : (n0.par == -1) = false := by simpa using h3
    clear HR2 h0 hb0 h2 hn0 HC k0 k1 k2 k3 k5 k6
    go_enter Tryz.func22, Tryz.ntmps22
    go_upto_region 1 with (fail)
    rw [← hw0]
    clear hw0
    go_wp2
    go_ret
    exact ⟨by rw [HE.out]; rfl, hp0⟩
  have h3 : n0.par = -1 := by simpa using h3
  rw [h3] at k4
  by_cases h4 : n0.lo = []
  · have HE := Lib.hid (show R = false by rw [HR2.out, h4]; simp)
    rw [h4] at k1
    clear HR2 h0 hb0 h2 hn0 h3 HC k0 k2 k3 k5 k6 h4
    go_enter Tryz.func22, Tryz.ntmps22
    go_upto_region 1 with (fail)
    rw [← hw0]
    clear hw0
    go_wp2
    go_ret
    exact ⟨by rw [HE.out]; rfl, hp0⟩
  have d4 : (n0.lo == []) = false := by simpa using h4
  have HS := Lib.hid (show R = rightGo ns (ns.length + 1) 0 (List.replicate ns.length 0) 0 by rw [HR2.out, decide_eq_true h2, decide_eq_true h3, decide_eq_true h4]; rfl)
  have hpar0 : ∀ m, ns[0]? = some m → m.par = -1 := fun m hm => by rw [hn0] at hm; cases hm; exact h3
  have MK := makeI w0 ns.length (by omega)
  obtain ⟨w1, hw1⟩ : ∃ w1, w1 = w0.alloc (.cells (ints (List.replicate ns.length 0)).toArray 3) := ⟨_, rfl⟩
  obtain ⟨db, hdb⟩ : ∃ db, w0.heap.size = db := ⟨_, rfl⟩
  rw [hdb, ← hw1] at MK
  have hb1 : w1.heap[db]? = some (.cells (ints (List.replicate ns.length 0)).toArray 3 (0, 0)) := by rw [hw1, ← hdb]; exact bk_new w0 _
  have p1 : Pur w0 w1 := by rw [hw1]; exact (Pur.refl w0).alloc _
  have t1 := bk_cell (bk_pur hb0 p1) 0 _ rfl
  clear HR2 HC k0 k2 k3 k5 k6 hn0 hw1
  go_enter Tryz.func22, Tryz.ntmps22
  go_upto_region 1 with (fail)
  rw [← hw0]
  clear hw0
  go_wp2
  clear MK
  go_loopw [4, 43] (fun lv k wx => ∃ (i f : Nat) (d : List Nat) (last : Int), i ≤ ns.length ∧ ns.length < i + f ∧ k = .int .i64 i ∧ lv = .int .i64 last ∧ d.length = ns.length ∧ wx.heap[db]? = some (.cells (ints d).toArray 3 (0, 0)) ∧ Pur w0 wx ∧
    Hid (Pars ns i) ∧ Hid (i = 0 ∨ (-1 ≤ last ∧ last < i)) ∧ Hid (∀ x ∈ d, x ≤ i) ∧ Hid (R = rightGo ns f i d last)) (fun _ k _ => ns.length + 1 - (intOf k).toNat)
  case atStart => exact ⟨0, ns.length + 1, _, 0, by omega, by omega, rfl, rfl, by simp, hb1, p1, Lib.hid (fun k m hk => by omega), Lib.hid (.inl rfl), Lib.hid (fun x hx => by rw [(List.mem_replicate.1 hx).2]; exact Nat.le_refl _), HS⟩
  case round =>
    clear t0 t1 k1 k4 hb1 p1
    obtain ⟨i, f, d, last, hi, hf, rfl, rfl, hdl, hbd, hpr, HP, HLs, HD, H⟩ := hrel
    obtain ⟨f, rfl⟩ : ∃ g, f = g + 1 := ⟨f - 1, by omega⟩
    have P1 : Pur w wr := hp0.trans hpr
    by_cases hlt : i < ns.length
    · have hlt' : (i : Int) < ns.length := by omega
      obtain ⟨n, hni⟩ : ∃ n, ns[i]? = some n := ⟨_, List.getElem?_eq_getElem hlt⟩
      have hnb := hB n (List.mem_of_getElem? hni)
      have HST := Lib.hid (right_step ns f i d last n hni)
      obtain ⟨g', o', ea, ec, pp, pq, he, -, HC⟩ := h0.node hni
      cases he
      obtain ⟨k0, k1, k2, k3, k4, k5, k6, hxr⟩ := HC wr hpr
      obtain ⟨sp, lo, ex, tx, par, at_⟩ := n
      dsimp only at k0 k1 k2 k3 k4 HST hxr
      obtain ⟨el, hel⟩ : ∃ el, ex.length = el := ⟨_, rfl⟩
      rw [hel] at k2 hxr
      have HEL := Lib.hid hel
      clear hel
      have hpz : i = 0 → par = -1 := fun e => by subst e; exact hpar0 _ hni
      obtain ⟨w3, hw3⟩ : ∃ w3, w3 = wr.alloc (.cells #[.string ⟨sp.toArray⟩, .string ⟨lo.toArray⟩, .slice ea el ec, .string ⟨tx.toArray⟩, .int .i64 par, .int .i64 pp, .int .i64 pq] 38) := ⟨_, rfl⟩
      obtain ⟨nb, hnbk⟩ : ∃ nb, wr.heap.size = nb := ⟨_, rfl⟩
      have hb3 : w3.heap[nb]? = some (.cells #[.string ⟨sp.toArray⟩, .string ⟨lo.toArray⟩, .slice ea el ec, .string ⟨tx.toArray⟩, .int .i64 par, .int .i64 pp, .int .i64 pq] 38 (0, 0)) := by rw [hw3, ← hnbk]; exact bk_new wr _
      have p3 : Pur wr w3 := by rw [hw3]; exact (Pur.refl wr).alloc _
      have hbd3 := bk_pur hbd p3
      have hndb : nb ≠ db := fun e => by rw [e, hbd3] at hb3; simp at hb3
      have hdbs : w0.heap.size ≤ db := by omega
      have hnbs : db < nb := by have := bk_lt hbd; omega
      clear HC
      go_upto_region 8 with (fail)
      rw [← hw3]
      have y0 := bk_cell hb3 0 _ rfl
      have y1 := bk_cell hb3 1 _ rfl
      have y2 := bk_cell hb3 2 _ rfl
      have y3 := bk_cell hb3 3 _ rfl
      have y4 := bk_cell hb3 4 _ rfl
      have y5 := bk_cell hb3 5 _ rfl
      have y6 := bk_cell hb3 6 _ rfl
      clear hw3 k0 k1 k2 k3 k4 k5 k6
      have P3 := hpr.trans p3
      by_cases hlo : lo = []
      · subst hlo
        have HG0 := Lib.hid (show R = (textR ns i ⟨sp, [], ex, tx, par, at_⟩ && (match (if i = 0 then some d else (climbI ns (i + 1) last par).map fun p => d.set i (d.getD p 0 + 1)) with
           | none => false
           | some d' => !(decide (32 ≤ d'.getD i 0) && decide False) && rightGo ns f (i + 1) d' par)) by rw [H.out, HST.out]; simp)
        clear H HST
        have CH := chars_any tx w3 (Utf8Tabs_below hT (P1.trans p3)) hnb.text
        rcases hch : chars tx with _ | cs
        · have HE := Lib.hid (show R = false by rw [HG0.out]; unfold textR; rw [hch]; rfl)
          rw [hch] at CH
          clear HG0 hch y0 y2 y4 y5 y6
          go_wp2_with fail
          refine CH.mono ?_
          rintro e w4 ⟨p4, rfl⟩
          clear CH y1 y3
          go_upto_region 10 with (fail)
          refine wp_region_pur (by kernel_rfl) (by kernel_rfl) ?_
          repeat (go_big_quiet_step (fail))
          refine wpQuiet_nil ?_
          intro wq hq
          go_wp2
          go_ret
          exact ⟨by rw [HE.out]; rfl, hp0.trans (P3.trans (p4.trans hq))⟩
        rw [hch] at CH
        have HT' := Lib.hid (show textR ns i ⟨sp, [], ex, tx, par, at_⟩ = (decide (tx ≠ []) && (decide (sp = []) && (decide (ex = []) && (decide (i = 0) || !(match ns[i - 1]? with | some q => decide (q.lo = []) && decide (q.par = par) | none => false))))) by unfold textR; rw [hch]; rfl)
        obtain ⟨tr, htr⟩ : ∃ tr, textR ns i ⟨sp, [], ex, tx, par, at_⟩ = tr := ⟨_, rfl⟩
        rw [htr] at HT' HG0
        clear hch htr
        go_wp2_with fail
        refine CH.mono ?_
        rintro e w4 ⟨p4, ca, cc, rfl, -⟩
        clear CH
        have P4 := P3.trans p4
        have hb4 := bk_pur hb3 p4
        have X0 : ∀ z : PW w4, z.to.cell? ⟨nb, 0, none⟩ = some (.string ⟨sp.toArray⟩) := fun z => bk_cell (bk_pur hb4 z.pur) 0 _ rfl
        have X2 : ∀ z : PW w4, z.to.cell? ⟨nb, 2, none⟩ = some (.slice ea el ec) := fun z => bk_cell (bk_pur hb4 z.pur) 2 _ rfl
        have X3 : ∀ z : PW w4, z.to.cell? ⟨nb, 3, none⟩ = some (.string ⟨tx.toArray⟩) := fun z => bk_cell (bk_pur hb4 z.pur) 3 _ rfl
        have X4 : ∀ z : PW w4, z.to.cell? ⟨nb, 4, none⟩ = some (.int .i64 par) := fun z => bk_cell (bk_pur hb4 z.pur) 4 _ rfl
        have XT : ∀ z : PW w4, z.to.cell? ⟨tb, 0, none⟩ = some (.slice (some ⟨g, o, none⟩) ns.length c) := fun z => bk_cell (bk_pur hb0 (P4.trans z.pur)) 0 _ rfl
        clear y0 y1 y2 y3 y4 y5 y6
        go_upto_region 10 with (fail)
        go_cut [100] from 57 to 100 (fun t wx => t = .bool (!tr) ∧ Pur w4 wx)
        case first =>
          by_cases htx : tx = []
          · have HE : tr = false := by rw [HT'.out, htx]; rfl
            subst HE
            subst htx
            clear HG0 HT'
            refine wp_region_pur (by kernel_rfl) (by kernel_rfl) ?_
            repeat (go_big_quiet_step (fail))
            refine wpQuiet_nil ?_
            intro wq hq
            go_wp2
            go_meet
            exact ⟨rfl, hq⟩
          have e3 : (tx == []) = false := by simpa using htx
          by_cases hsp : ¬ sp = []
          · have HE : tr = false := by rw [HT'.out, decide_eq_false hsp, Bool.false_and, Bool.and_false]
            have e0 : (sp == []) = false := by simpa using hsp
            subst HE
            clear HG0 HT' htx hsp
            refine wp_region_pur (by kernel_rfl) (by kernel_rfl) ?_
            repeat (go_big_quiet_step (fail))
            refine wpQuiet_nil ?_
            intro wq hq
            go_wp2
            go_meet
            exact ⟨rfl, hq⟩
          have hsp : sp = [] := by simpa using hsp
          by_cases hex : ¬ ex = []
          · have HE : tr = false := by rw [HT'.out, decide_eq_false hex, Bool.false_and, Bool.and_false, Bool.and_false]
            have e2n : 0 < el := by have := List.length_pos_iff.2 hex; rw [HEL.out] at this; exact this
            have e2 : (0 : Int) < el := by omega
            subst HE hsp
            clear HG0 HT' htx hex
            refine wp_region_pur (by kernel_rfl) (by kernel_rfl) ?_
            repeat (go_big_quiet_step (fail))
            refine wpQuiet_nil ?_
            intro wq hq
            go_wp2
            go_meet
            exact ⟨rfl, hq⟩
          have hex : ex = [] := by simpa using hex
          by_cases hi0 : i = 0
          · have HE : tr = true := by rw [HT'.out, hsp, hex, hi0]; simpa using htx
            subst HE hsp
            have e2n : ¬ 0 < el := by rw [← HEL.out, hex]; decide
            have e2 : ¬ (0 : Int) < el := by omega
            have e5 : ¬ (0 : Int) < i := by omega
            have e5n : ¬ 0 < i := by omega
            clear hi0 hex
            clear HG0 HT' htx
            refine wp_region_pur (by kernel_rfl) (by kernel_rfl) ?_
            repeat (go_big_quiet_step (fail))
            refine wpQuiet_nil ?_
            intro wq hq
            go_wp2
            go_meet
            exact ⟨rfl, hq⟩
          obtain ⟨k, rfl⟩ : ∃ k, i = k + 1 := ⟨i - 1, by omega⟩
          obtain ⟨m, hm'⟩ : ∃ m, ns[k]? = some m := ⟨_, List.getElem?_eq_getElem (by omega)⟩
          obtain ⟨g2, o2, ea2, ec2, pp2, pq2, he2, -, HC2⟩ := h0.node hm'
          cases he2
          have M1 : ∀ z : PW w4, z.to.cell? ⟨g, o + k * 7 + 1, none⟩ = some (.string ⟨m.lo.toArray⟩) := fun z => (HC2 z.to (P4.trans z.pur)).2.1
          have M4 : ∀ z : PW w4, z.to.cell? ⟨g, o + k * 7 + 4, none⟩ = some (.int .i64 m.par) := fun z => (HC2 z.to (P4.trans z.pur)).2.2.2.2.1
          have HT2 := Lib.hid (show tr = !(decide (m.lo = []) && decide (m.par = par)) by
            rw [HT'.out, hsp, hex, decide_eq_true htx, decide_eq_false hi0, Nat.add_sub_cancel, hm']; rfl)
          have w1' : IntKind.i64.wrap (((k + 1 : Nat) : Int) - 1) = (k : Int) := by
            rw [show ((k + 1 : Nat) : Int) - 1 = k by omega]; exact IntWalk.i64_in _ (by omega)
          have nk3 : (k : Int) < ns.length := by omega
          have nk4 : (0 : Int) < (k : Int) + 1 := by omega
          obtain ⟨m0, ml, mx, mt, mp, ma⟩ := m
          dsimp only at M1 M4 HT2
          subst hsp
          have e2n : ¬ 0 < el := by rw [← HEL.out, hex]; decide
          have e2 : ¬ (0 : Int) < el := by omega
          clear HG0 HT' htx hm' HC2 hex
          by_cases e5 : ml = []
          · by_cases e6 : mp = par
            · have HE : tr = false := by rw [HT2.out, e5, e6]; simp
              have d6 : (mp == par) = true := by simpa using e6
              subst HE e5
              clear HT2 e6
              refine wp_region_pur (by kernel_rfl) (by kernel_rfl) ?_
              repeat (go_big_quiet_step (fail))
              refine wpQuiet_nil ?_
              intro wq hq
              go_wp2
              go_meet
              exact ⟨rfl, hq⟩
            · have HE : tr = true := by rw [HT2.out, decide_eq_false e6, Bool.and_false]; rfl
              have d6 : (mp == par) = false := by simpa using e6
              subst HE e5
              clear HT2 e6
              refine wp_region_pur (by kernel_rfl) (by kernel_rfl) ?_
              repeat (go_big_quiet_step (fail))
              refine wpQuiet_nil ?_
              intro wq hq
              go_wp2
              go_meet
              exact ⟨rfl, hq⟩
          · have HE : tr = true := by rw [HT2.out, decide_eq_false e5]; rfl
            have d5 : (ml == []) = false := by simpa using e5
            subst HE
            clear HT2 e5
            refine wp_region_pur (by kernel_rfl) (by kernel_rfl) ?_
            repeat (go_big_quiet_step (fail))
            refine wpQuiet_nil ?_
            intro wq hq
            go_wp2
            go_meet
            exact ⟨rfl, hq⟩
        case rest =>
        obtain ⟨rfl, p5⟩ := hcut
        clear X0 X2 X3 X4 XT
        have p35 := p4.trans p5
        rcases tr with _ | _
        · have HE := Lib.hid (show R = false by rw [HG0.out]; rfl)
          clear HG0
          go_wp2
          go_ret
          exact ⟨by rw [HE.out]; rfl, hp0.trans (P3.trans p35)⟩
        have HG := Lib.hid (show R = _ by rw [HG0.out, Bool.true_and])
        clear HG0 HT'
        have hbdW := bk_pur hbd3 p35
        have hbW := bk_pur hb3 p35
        have PW := P3.trans p35
        have tW : wc.cell? ⟨tb, 0, none⟩ = _ := bk_cell (bk_pur hb0 PW) 0 _ rfl
        have x4 := bk_cell hbW 4 _ rfl
        by_cases hi0 : i = 0
        · subst hi0
          have HG2 := Lib.hid (show R = (!(decide (32 ≤ d.getD 0 0) && decide False) && rightGo ns f (0 + 1) d par) by rw [HG.out]; simp)
          have hpm := hpz rfl
          subst hpm
          have HP' : Hid (Pars ns (0 + 1)) := Lib.hid (fun k m hk hm => by
            obtain rfl : k = 0 := by omega
            have := hpar0 m hm
            omega)
          have HD' : Hid (∀ x ∈ d, x ≤ 0 + 1) := Lib.hid (fun x hx => by have := HD.out x hx; omega)
          clear HG x4
          have kx := bk_cell hbdW 0 _ (ints_getD d 0 (by omega))
          have x1 := bk_cell hbW 1 _ rfl
          have x4 := bk_cell hbW 4 _ rfl

          obtain ⟨x, hx⟩ : ∃ x, d.getD 0 0 = x := ⟨_, rfl⟩
          rw [hx] at kx
          clear hx
          have HE := Lib.hid (show R = rightGo ns f (0 + 1) d (-1) by rw [HG2.out]; simp)
          obtain ⟨b32, h32⟩ : ∃ b, decide ((32 : Int) ≤ x) = b := ⟨_, rfl⟩
          rcases b32 with _ | _
          all_goals
            go_wp2
            go_roundw
            case rel => exact ⟨0 + 1, f, d, -1, by omega, by omega, by go_num, rfl, by omega, hbdW, PW, HP', Lib.hid (.inr ⟨by omega, by omega⟩), HD', HE⟩
            case measure => simp [intOf] <;> omega

        have hL := HLs.out.resolve_left hi0
        have dgt : (0 : Int) < i := by omega
        have HG2 := Lib.hid (show R = (match ((climbI ns (i + 1) last par).map fun p => d.set i (d.getD p 0 + 1)) with
               | none => false
               | some d' => !(decide (32 ≤ d'.getD i 0) && decide False) && rightGo ns f (i + 1) d' par) by rw [HG.out, if_neg hi0])
        obtain ⟨cl, hcl⟩ : ∃ cl, climbI ns (i + 1) last par = cl := ⟨_, rfl⟩
        rw [hcl] at HG2
        have HCL := Lib.hid hcl
        clear HG hcl
        go_upto_region 16 with (fail)
        go_loopw [9] (fun pv wx => ∃ (p : Int) (fc : Nat), pv = .int .i64 p ∧ wx = wc ∧ -1 ≤ p ∧ p < i ∧ p + 1 < fc ∧ Hid (climbI ns fc p par = cl)) (fun pv _ => (intOf pv + 1).toNat)
        case atStart => exact ⟨last, i + 1, rfl, rfl, hL.1, hL.2, by omega, HCL⟩
        case round =>
          obtain ⟨p, fc, rfl, rfl, hpl, hpi, hfc, HK⟩ := hrel
          obtain ⟨fc, rfl⟩ : ∃ g, fc = g + 1 := ⟨fc - 1, by omega⟩
          have HKS := Lib.hid (climb_step ns fc p par)
          by_cases hp0' : p < 0
          · have HE := Lib.hid (show R = false by rw [HG2.out, ← HK.out, HKS.out, if_pos hp0']; rfl)
            have dp : ¬ (0 : Int) ≤ p := by omega
            clear HK HKS HG2 HCL
            go_wp2
            go_ret
            exact ⟨by rw [HE.out]; rfl, hp0.trans PW⟩
          have dp : (0 : Int) ≤ p := by omega
          by_cases hpe : p = par
          · have dpe : (p == par) = true := by simpa using hpe
            have HE := Lib.hid (show cl = some p.toNat by rw [← HK.out, HKS.out, if_neg hp0', if_pos hpe])
            obtain ⟨pn, rfl⟩ : ∃ pn : Nat, p = (pn : Int) := ⟨p.toNat, by omega⟩
            have HG3 := Lib.hid (show R = (!(decide (32 ≤ (d.set i (d.getD pn 0 + 1)).getD i 0) && decide False) && rightGo ns f (i + 1) (d.set i (d.getD pn 0 + 1)) par) by rw [HG2.out, HE.out]; rfl)
            have hpn : pn < i := by omega
            have dpn : (pn : Int) < ns.length := by omega
            have kp := bk_cell hbdW pn _ (ints_getD d pn (by omega))
            have fd := bk_free hbdW i
            have hdx : d.getD pn 0 ≤ i := by
              rw [List.getD_eq_getElem?_getD, List.getElem?_eq_getElem (by omega)]
              exact HD.out _ (List.getElem_mem _)
            have kii := bk_cell hbdW i _ (ints_getD d i (by omega))
            have HP' : Hid (Pars ns (i + 1)) := Lib.hid (fun k m hk hm => by
              by_cases hki : k = i
              · subst hki
                rw [hni] at hm
                cases hm
                dsimp only
                omega
              · exact HP.out k m (by omega) hm)
            have HD' : Hid (∀ x ∈ d.set i (d.getD pn 0 + 1), x ≤ i + 1) := Lib.hid (fun x hx => by
              rcases List.mem_or_eq_of_mem_set hx with hx | rfl
              · have := HD.out x hx; omega
              · omega)
            have hbdX := bk_set hbdW i (.int .i64 (((d.getD pn 0 : Nat) : Int) + 1))
            rw [ints_set1] at hbdX
            have hbX := bk_other hbW (a := ⟨db, i, none⟩) hndb (.int .i64 (((d.getD pn 0 : Nat) : Int) + 1))
            have PX : Pur w0 (World.setCell _ ⟨db, i, none⟩ (.int .i64 (((d.getD pn 0 : Nat) : Int) + 1))) := PW.setCell hdbs _
            have hw1 : IntKind.i64.wrap (((d.getD pn 0 : Nat) : Int) + 1) = ((d.getD pn 0 : Nat) : Int) + 1 := IntWalk.i64_in _ (by omega)
            generalize hy : d.getD pn 0 = y at *
            have dlen : (d.set i (y + 1)).length = ns.length := by rw [List.length_set]; exact hdl
            have hparb : -1 ≤ par ∧ par < (i : Int) + 1 := by omega
            clear HK HKS HG2 HCL HE hpe
            go_upto_region 21 with (fail)
            generalize hdd : d.set i (y + 1) = dd at *
            clear kp fd kii tW x4
            have kx := bk_cell hbdX i _ (ints_getD dd i (by omega))
            have x1 := bk_cell hbX 1 _ rfl
            have x4 := bk_cell hbX 4 _ rfl

            obtain ⟨x, hx⟩ : ∃ x, dd.getD i 0 = x := ⟨_, rfl⟩
            rw [hx] at kx
            clear hx
            have HE := Lib.hid (show R = rightGo ns f (i + 1) dd par by rw [HG3.out]; simp)
            obtain ⟨b32, h32⟩ : ∃ b, decide ((32 : Int) ≤ x) = b := ⟨_, rfl⟩
            rcases b32 with _ | _
            all_goals
              go_wp2
              go_roundw
              case rel => exact ⟨i + 1, f, dd, par, by omega, by omega, by go_num, rfl, by omega, hbdX, PX, HP', Lib.hid (.inr ⟨by omega, by omega⟩), HD', HE⟩
              case measure => simp [intOf] <;> omega

          have dpe : (p == par) = false := by simpa using hpe
          obtain ⟨pn, rfl⟩ : ∃ pn : Nat, p = (pn : Int) := ⟨p.toNat, by omega⟩
          obtain ⟨m, hm'⟩ : ∃ m, ns[pn]? = some m := ⟨_, List.getElem?_eq_getElem (by omega)⟩
          have hmp := HP.out pn m (by omega) hm'
          have dpn : (pn : Int) < ns.length := by omega
          obtain ⟨g2, o2, ea2, ec2, pp2, pq2, he2, -, HC2⟩ := h0.node hm'
          cases he2
          have j4 := (HC2 _ PW).2.2.2.2.1
          have HE := Lib.hid (show climbI ns fc m.par par = cl by rw [← HK.out, HKS.out, if_neg hp0', if_neg hpe]; simp only [Int.toNat_natCast, hm'])
          clear HK HKS HG2 HCL HC2
          go_wp2
          go_roundw
          case rel => exact ⟨m.par, fc, rfl, trivial, hmp.1, by omega, by omega, HE⟩
          case measure => simp [intOf] <;> omega
      · have d1' : (lo == []) = false := by simpa using hlo
        have HG0 := Lib.hid (show R = (elemR ⟨sp, lo, ex, tx, par, at_⟩ && (match (if i = 0 then some d else (climbI ns (i + 1) last par).map fun p => d.set i (d.getD p 0 + 1)) with
           | none => false
           | some d' => !(decide (32 ≤ d'.getD i 0) && decide True) && rightGo ns f (i + 1) d' (i : Int))) by rw [H.out, HST.out]; simp [hlo])
        clear H HST hlo
        have ER := elementRight_any ⟨sp, lo, ex, tx, par, at_⟩ (.slice ea el ec) pp pq w3 (Utf8Tabs_below hT (P1.trans p3)) (hxr.pur p3) hnb
        dsimp only at ER
        obtain ⟨er, her⟩ : ∃ er, elemR ⟨sp, lo, ex, tx, par, at_⟩ = er := ⟨_, rfl⟩
        rw [her] at ER HG0
        clear her
        go_wp2_with fail
        refine ER.mono ?_
        rintro e w4 ⟨rfl, p4⟩
        clear ER y0 y1 y2 y3 y4 y5 y6
        rcases er with _ | _
        · have HE := Lib.hid (show R = false by rw [HG0.out]; rfl)
          clear HG0
          go_wp2
          go_ret
          exact ⟨by rw [HE.out]; rfl, hp0.trans (P3.trans p4)⟩
        have HG := Lib.hid (show R = _ by rw [HG0.out, Bool.true_and])
        clear HG0
        have hbdW := bk_pur hbd3 p4
        have hbW := bk_pur hb3 p4
        have PW := P3.trans p4
        have tW : w4.cell? ⟨tb, 0, none⟩ = _ := bk_cell (bk_pur hb0 PW) 0 _ rfl
        have x4 := bk_cell hbW 4 _ rfl
        by_cases hi0 : i = 0
        · subst hi0
          have HG2 := Lib.hid (show R = (!(decide (32 ≤ d.getD 0 0) && decide True) && rightGo ns f (0 + 1) d ((0 : Nat) : Int)) by rw [HG.out]; simp)
          have hpm := hpz rfl
          subst hpm
          have HP' : Hid (Pars ns (0 + 1)) := Lib.hid (fun k m hk hm => by
            obtain rfl : k = 0 := by omega
            have := hpar0 m hm
            omega)
          have HD' : Hid (∀ x ∈ d, x ≤ 0 + 1) := Lib.hid (fun x hx => by have := HD.out x hx; omega)
          clear HG x4
          have kx := bk_cell hbdW 0 _ (ints_getD d 0 (by omega))
          have x1 := bk_cell hbW 1 _ rfl
          have x4 := bk_cell hbW 4 _ rfl

          obtain ⟨x, hx⟩ : ∃ x, d.getD 0 0 = x := ⟨_, rfl⟩
          rw [hx] at kx
          have HX2 := HG2
          rw [hx] at HX2
          clear hx
          by_cases h32 : 32 ≤ x
          · have HE := Lib.hid (show R = false by rw [HX2.out, decide_eq_true h32]; rfl)
            have d32 : (32 : Int) ≤ x := by omega
            clear HX2 h32
            go_wp2
            go_ret
            exact ⟨by rw [HE.out]; rfl, hp0.trans (PW)⟩
          have HE := Lib.hid (show R = rightGo ns f (0 + 1) d ((0 : Nat) : Int) by rw [HX2.out, decide_eq_false h32]; rfl)
          have d32 : ¬ (32 : Int) ≤ x := by omega
          clear HX2 h32

          go_wp2
          go_roundw
          case rel => exact ⟨0 + 1, f, d, ((0 : Nat) : Int), by omega, by omega, by go_num, rfl, by omega, hbdW, PW, HP', Lib.hid (.inr ⟨by omega, by omega⟩), HD', HE⟩
          case measure => simp [intOf] <;> omega

        have hL := HLs.out.resolve_left hi0
        have dgt : (0 : Int) < i := by omega
        have HG2 := Lib.hid (show R = (match ((climbI ns (i + 1) last par).map fun p => d.set i (d.getD p 0 + 1)) with
               | none => false
               | some d' => !(decide (32 ≤ d'.getD i 0) && decide True) && rightGo ns f (i + 1) d' (i : Int)) by rw [HG.out, if_neg hi0])
        obtain ⟨cl, hcl⟩ : ∃ cl, climbI ns (i + 1) last par = cl := ⟨_, rfl⟩
        rw [hcl] at HG2
        have HCL := Lib.hid hcl
        clear HG hcl
        go_upto_region 16 with (fail)
        go_loopw [9] (fun pv wx => ∃ (p : Int) (fc : Nat), pv = .int .i64 p ∧ wx = w4 ∧ -1 ≤ p ∧ p < i ∧ p + 1 < fc ∧ Hid (climbI ns fc p par = cl)) (fun pv _ => (intOf pv + 1).toNat)
        case atStart => exact ⟨last, i + 1, rfl, rfl, hL.1, hL.2, by omega, HCL⟩
        case round =>
          obtain ⟨p, fc, rfl, rfl, hpl, hpi, hfc, HK⟩ := hrel
          obtain ⟨fc, rfl⟩ : ∃ g, fc = g + 1 := ⟨fc - 1, by omega⟩
          have HKS := Lib.hid (climb_step ns fc p par)
          by_cases hp0' : p < 0
          · have HE := Lib.hid (show R = false by rw [HG2.out, ← HK.out, HKS.out, if_pos hp0']; rfl)
            have dp : ¬ (0 : Int) ≤ p := by omega
            clear HK HKS HG2 HCL
            go_wp2
            go_ret
            exact ⟨by rw [HE.out]; rfl, hp0.trans PW⟩
          have dp : (0 : Int) ≤ p := by omega
          by_cases hpe : p = par
          · have dpe : (p == par) = true := by simpa using hpe
            have HE := Lib.hid (show cl = some p.toNat by rw [← HK.out, HKS.out, if_neg hp0', if_pos hpe])
            obtain ⟨pn, rfl⟩ : ∃ pn : Nat, p = (pn : Int) := ⟨p.toNat, by omega⟩
            have HG3 := Lib.hid (show R = (!(decide (32 ≤ (d.set i (d.getD pn 0 + 1)).getD i 0) && decide True) && rightGo ns f (i + 1) (d.set i (d.getD pn 0 + 1)) (i : Int)) by rw [HG2.out, HE.out]; rfl)
            have hpn : pn < i := by omega
            have dpn : (pn : Int) < ns.length := by omega
            have kp := bk_cell hbdW pn _ (ints_getD d pn (by omega))
            have fd := bk_free hbdW i
            have hdx : d.getD pn 0 ≤ i := by
              rw [List.getD_eq_getElem?_getD, List.getElem?_eq_getElem (by omega)]
              exact HD.out _ (List.getElem_mem _)
            have kii := bk_cell hbdW i _ (ints_getD d i (by omega))
            have HP' : Hid (Pars ns (i + 1)) := Lib.hid (fun k m hk hm => by
              by_cases hki : k = i
              · subst hki
                rw [hni] at hm
                cases hm
                dsimp only
                omega
              · exact HP.out k m (by omega) hm)
            have HD' : Hid (∀ x ∈ d.set i (d.getD pn 0 + 1), x ≤ i + 1) := Lib.hid (fun x hx => by
              rcases List.mem_or_eq_of_mem_set hx with hx | rfl
              · have := HD.out x hx; omega
              · omega)
            have hbdX := bk_set hbdW i (.int .i64 (((d.getD pn 0 : Nat) : Int) + 1))
            rw [ints_set1] at hbdX
            have hbX := bk_other hbW (a := ⟨db, i, none⟩) hndb (.int .i64 (((d.getD pn 0 : Nat) : Int) + 1))
            have PX : Pur w0 (World.setCell _ ⟨db, i, none⟩ (.int .i64 (((d.getD pn 0 : Nat) : Int) + 1))) := PW.setCell hdbs _
            have hw1 : IntKind.i64.wrap (((d.getD pn 0 : Nat) : Int) + 1) = ((d.getD pn 0 : Nat) : Int) + 1 := IntWalk.i64_in _ (by omega)
            generalize hy : d.getD pn 0 = y at *
            have dlen : (d.set i (y + 1)).length = ns.length := by rw [List.length_set]; exact hdl
            have hparb : -1 ≤ par ∧ par < (i : Int) + 1 := by omega
            clear HK HKS HG2 HCL HE hpe
            go_upto_region 21 with (fail)
            generalize hdd : d.set i (y + 1) = dd at *
            clear kp fd kii tW x4
            have kx := bk_cell hbdX i _ (ints_getD dd i (by omega))
            have x1 := bk_cell hbX 1 _ rfl
            have x4 := bk_cell hbX 4 _ rfl

            obtain ⟨x, hx⟩ : ∃ x, dd.getD i 0 = x := ⟨_, rfl⟩
            rw [hx] at kx
            have HX2 := HG3
            rw [hx] at HX2
            clear hx
            by_cases h32 : 32 ≤ x
            · have HE := Lib.hid (show R = false by rw [HX2.out, decide_eq_true h32]; rfl)
              have d32 : (32 : Int) ≤ x := by omega
              clear HX2 h32
              go_wp2
              go_ret
              exact ⟨by rw [HE.out]; rfl, hp0.trans (PX)⟩
            have HE := Lib.hid (show R = rightGo ns f (i + 1) dd (i : Int) by rw [HX2.out, decide_eq_false h32]; rfl)
            have d32 : ¬ (32 : Int) ≤ x := by omega
            clear HX2 h32

            go_wp2
            go_roundw
            case rel => exact ⟨i + 1, f, dd, (i : Int), by omega, by omega, by go_num, rfl, by omega, hbdX, PX, HP', Lib.hid (.inr ⟨by omega, by omega⟩), HD', HE⟩
            case measure => simp [intOf] <;> omega

          have dpe : (p == par) = false := by simpa using hpe
          obtain ⟨pn, rfl⟩ : ∃ pn : Nat, p = (pn : Int) := ⟨p.toNat, by omega⟩
          obtain ⟨m, hm'⟩ : ∃ m, ns[pn]? = some m := ⟨_, List.getElem?_eq_getElem (by omega)⟩
          have hmp := HP.out pn m (by omega) hm'
          have dpn : (pn : Int) < ns.length := by omega
          obtain ⟨g2, o2, ea2, ec2, pp2, pq2, he2, -, HC2⟩ := h0.node hm'
          cases he2
          have j4 := (HC2 _ PW).2.2.2.2.1
          have HE := Lib.hid (show climbI ns fc m.par par = cl by rw [← HK.out, HKS.out, if_neg hp0', if_neg hpe]; simp only [Int.toNat_natCast, hm'])
          clear HK HKS HG2 HCL HC2
          go_wp2
          go_roundw
          case rel => exact ⟨m.par, fc, rfl, trivial, hmp.1, by omega, by omega, HE⟩
          case measure => simp [intOf] <;> omega
    · have hi2 : i = ns.length := by omega
      subst hi2
      have HE := Lib.hid (show R = true by rw [H.out]; unfold rightGo; rw [List.getElem?_eq_none (Nat.le_refl _)])
      have hlt' : ¬ ((ns.length : Nat) : Int) < ns.length := by omega
      clear H hlt hi
      go_wp2
      go_ret
      exact ⟨by rw [HE.out]; rfl, P1⟩
end Te
end Go.Proofs.YtigfcchblfnnbaaGreatDoor
