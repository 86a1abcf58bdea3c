/- Layer 8: (*Heap).resize. -/
import Derived.Test.YtfophnmnehpenaaDoorHm18
namespace Go.Proofs.YtfophnmnehpenaaDoor
open Go Go.RowKit
set_option linter.all false
/-- what a heap's call of an object leaves: the answer, and the heap behind it -/
def Left (w : World) (s : Hs) (w' : World) (d : Hd) : Prop := ∃ s', HpAt w' s' ∧ Step w s w' s' ∧ s'.d = d ∧ ∀ j, s'.at j = s.at j
theorem less_at (s : Hs) (c : Int) (j : Int) : (s.less c).at j = s.at j := rfl
theorem VRead.take {w : World} {v : Value} {vs : List Va} (h : VRead w v vs) {a : Option Addr} {m c : Nat} (hv : v = .slice a m c) (n : Nat) (hn : n ≤ vs.length) (hpos : vs ≠ []) (c' : Nat) : VRead w (.slice a n c') (vs.take n) := by
  rcases h with ⟨rfl, rfl⟩ | ⟨b, o, c, rfl, hb, hc⟩
  · exact absurd rfl hpos
  · simp only [Value.slice.injEq] at hv
    obtain ⟨rfl, -, -⟩ := hv
    refine .inr ⟨b, o, c', ?_, hb, fun j u hu => hc j u ?_⟩
    · rw [List.length_take, Nat.min_eq_left hn]
    · have e : vs = vs.take n ++ vs.drop n := (List.take_append_drop n vs).symm
      rw [e, List.flatMap_append, List.getElem?_append_left (List.getElem?_eq_some_iff.1 hu).1]
      exact hu
set_option maxRecDepth 100000 in
set_option maxHeartbeats 4000000 in
theorem resize_any (s : Hs) (i : Int) (x : Ob) (o n : Nat) (w : World) (h : HpAt w s) (hx : s.d.obj i = some x) (ho : s.at i = some ⟨o, 0, none⟩) (hn : n ≤ 2147483648) {G : Nat} (hok : s.d.Ok G) :
    Calls Tryd.prog 42 #[.pointer (some ⟨s.h, 0, none⟩), .pointer (some ⟨o, 0, none⟩), .int .i64 n] w fun e w' =>
      e = .returned (.int .i64 (s.d.resize i x n).1) ∧ Left w s w' (s.d.resize i x n).2 := by
  obtain ⟨p, hp, hxx, hat, hob⟩ := h.pl hx
  obtain rfl : p.o = o := by rw [ho] at hat; simpa using hat.symm
  have hb := hok.bounds
  have hil := (hok.mem (Hd.obj_mem hx).1).2
  simp only [Hs.d] at hb
  obtain ⟨a, c, hiv⟩ := row_shape hob.items
  have Q7 : ∀ y : PW w, y.to.cell? ⟨p.o, 7, none⟩ = some (.slice a x.items.length c) := fun y => bk_cell (bk_pur hob.own y.pur) 7 _ (by rw [← hiv]; rfl)
  have Q1 : ∀ y : PW w, y.to.cell? ⟨s.h, 1, none⟩ = some (.int .i64 s.left) := fun y => bk_cell (bk_pur h.own y.pur) 1 _ rfl
  have wr1 : IntKind.i64.wrap ((n : Int) - x.items.length) = n - x.items.length := IntWalk.i64_in _ (by omega)
  obtain ⟨R, hR⟩ : ∃ R, s.d.resize i x n = R := ⟨_, rfl⟩
  rw [hR]
  unfold Hd.resize at hR
  by_cases hlt : s.left < (n : Int) - x.items.length
  · rw [if_pos (show s.d.left < _ from hlt)] at hR
    subst hR
    have hfin : ∀ w', Pur w w' → Left w s w' s.d := fun w' hpp => ⟨s, h.pur hpp, Step.pur hpp, rfl, fun _ => rfl⟩
    have hd := decide_eq_true hlt
    clear h hx ho hok hp hxx hat hob hiv
    go_enter Tryd.func42, Tryd.ntmps42
    go_wp2_with fail
    refine wp_region_pur (by kernel_rfl) (by kernel_rfl) ?_
    repeat (go_big_quiet_step (fail))
    refine wpQuiet_nil ?_
    intro w1 h1
    go_wp2
    go_ret
    exact ⟨rfl, hfin _ h1⟩
  · rw [if_neg (show ¬ s.d.left < _ from hlt)] at hR
    have hd := decide_eq_false hlt
    have wr2 : IntKind.i64.wrap (s.left - ((n : Int) - x.items.length)) = s.left - (n - x.items.length) := IntWalk.i64_in _ (by omega)
    have LS : ∀ w2, Pur w w2 → HpAt (w2.setCell ⟨s.h, 1, none⟩ (.int .i64 (s.left - ((n : Int) - x.items.length)))) (s.less (s.left - ((n : Int) - x.items.length))) ∧ Step w s (w2.setCell ⟨s.h, 1, none⟩ (.int .i64 (s.left - ((n : Int) - x.items.length)))) (s.less (s.left - ((n : Int) - x.items.length))) := fun w2 h2 =>
      ⟨((h.pur h2).less (s.left - ((n : Int) - x.items.length))).1, (Step.pur h2).trans ((h.pur h2).less (s.left - ((n : Int) - x.items.length))).2⟩
    have hpl : (s.less (s.left - ((n : Int) - x.items.length))).ps[i.toNat]? = some p := hp
    have hxl : (s.less (s.left - ((n : Int) - x.items.length))).xs[i.toNat]? = some x := hxx
    have F1 : ∀ w2, Pur w w2 → w2.frozen? ⟨s.h, 1, none⟩ = false ∧ w2.cell? ⟨s.h, 1, none⟩ = some (.int .i64 s.left) := fun w2 h2 => ⟨bk_free (bk_pur h.own h2) 1, bk_cell (bk_pur h.own h2) 1 _ rfl⟩
    by_cases hs : n < x.items.length
    · have hsI : (n : Int) < x.items.length := by omega
      have hxr : x.resize n = { x with items := x.items.take n } := by unfold Ob.resize; rw [if_pos hs]
      rw [hxr] at hR
      subst hR
      have hfin : ∀ (w3 w4 : World) (v' : Value), HpAt w3 (s.less (s.left - ((n : Int) - x.items.length))) → Step w s w3 (s.less (s.left - ((n : Int) - x.items.length))) → Pur w3 w4 → w4.ownsRow w3.heap.size 33 4 v' (x.items.take n).length ((x.items.take n).flatMap Va.cells) → Left w s (w4.setCell ⟨p.o, 7, none⟩ v') (s.d.turn i { x with items := x.items.take n } (s.left - ((n : Int) - x.items.length))) := fun w3 w4 v' h3 k3 hpp hv => by
        have hlt3 := h3.lt
        have := h3.slice hpl hxl (grown_pur hpp _) (row_low hv (Nat.zero_le _)) (fun b hb' => .inr (hv.lt b hb').1)
        exact ⟨_, this.1, k3.trans this.2, rfl, fun j => (turn_at (s.less (s.left - ((n : Int) - x.items.length))) i.toNat p ⟨p.o, p.m, p.kv, v'⟩ _ hpl rfl j).trans (less_at s _ j)⟩
      have hfr : ∀ (w3 : World), HpAt w3 (s.less (s.left - ((n : Int) - x.items.length))) → ∀ w4, Pur w3 w4 → w4.frozen? ⟨p.o, 7, none⟩ = false ∧ w4.cell? ⟨p.o, 7, none⟩ = some (.slice a x.items.length c) ∧ VRead w4 (.slice a n c) (x.items.take n) := fun w3 h3 w4 h4 => by
        have hb3 := (h3.pur h4).each _ _ _ hpl hxl
        refine ⟨bk_free hb3.own 7, bk_cell hb3.own 7 _ (by rw [← hiv]; rfl), (VRead.of_own hb3.items).take hiv n (by omega) (fun e => by rw [e] at hs; simp at hs) c⟩
      have CL := fun w4 (hv : VRead w4 (.slice a n c) (x.items.take n)) => clone_any _ _ w4 hv (by rw [List.length_take]; omega)
      have hcap : n ≤ c := by
        rcases hob.items.2 with ⟨e1, e2⟩ | ⟨g, cap, cur, e1, -, -, e2, -⟩
        · omega
        · rw [hiv] at e1
          simp only [Value.slice.injEq] at e1
          omega
      have hcapI : (n : Int) ≤ c := by omega
      clear h hx ho hok hp hxx hat hob hpl hxl hiv hxr hlt
      go_enter Tryd.func42, Tryd.ntmps42
      go_wp2_with fail
      refine wp_region_pur (by kernel_rfl) (by kernel_rfl) ?_
      repeat (go_big_quiet_step (fail))
      refine wpQuiet_nil ?_
      intro w1 h1
      have Q7' : ∀ y : PW w1, y.to.cell? ⟨p.o, 7, none⟩ = some (.slice a x.items.length c) := fun y => Q7 ⟨y.to, h1.trans y.pur⟩
      have Q1' : ∀ y : PW w1, y.to.cell? ⟨s.h, 1, none⟩ = some (.int .i64 s.left) := fun y => Q1 ⟨y.to, h1.trans y.pur⟩
      clear Q7 Q1
      go_wp2_with fail
      refine wp_region_pur_tail 12 (by kernel_rfl) (by kernel_rfl) ?_
      simp only [List.take_succ_cons, List.take_zero, List.drop_succ_cons, List.drop_zero]
      repeat (go_big_quiet_step (fail))
      refine wpQuiet_nil ?_
      intro w2 h2
      obtain ⟨f1, g1⟩ := F1 _ (h1.trans h2)
      obtain ⟨h3, k3⟩ := LS _ (h1.trans h2)
      obtain ⟨f7, q7, v7⟩ := hfr _ h3 _ (Pur.refl _)
      have CL' := CL _ v7
      have hfin' := fun w4 v' => hfin _ w4 v' h3 k3
      have hfr' := hfr _ h3
      clear hfin hfr CL LS F1 h3 k3 v7 f7 Q7' Q1'
      go_wp2_with fail
      refine CL'.mono ?_
      rintro e w4 ⟨v', rfl, h4, hrow⟩
      obtain ⟨f7, q7', -⟩ := hfr' _ h4
      have HF := hfin' w4 v' h4 hrow
      have hrow2 := hrow
      rw [show (x.items.take n).length = n by rw [List.length_take]; omega] at hrow2
      obtain ⟨a3, c3, rfl⟩ := row_shape hrow2
      clear hrow2
      clear CL' hfin' hfr' hrow q7 f1 g1
      go_wp2
      go_ret
      exact ⟨rfl, HF⟩
    · obtain ⟨m, hnm⟩ : ∃ m, n = x.items.length + m := ⟨n - x.items.length, by omega⟩
      have hm : m ≤ 10000 := by omega
      have hsI : ¬ (n : Int) < x.items.length := by omega
      have hsD : decide ((n : Int) < x.items.length) = false := decide_eq_false hsI
      have hxr : x.resize n = { x with items := x.items ++ List.replicate m Va.zero } := by
        unfold Ob.resize; rw [if_neg hs, hnm, Nat.add_sub_cancel_left]
      rw [hxr] at hR
      subst hR
      obtain ⟨i0, hi, hz⟩ := Option.map_eq_some_iff.1 va_info'
      simp only [Prod.mk.injEq] at hz
      obtain ⟨hz0, hz1, hz2⟩ := hz
      obtain ⟨z0, hz0, hzs⟩ := Option.map_eq_some_iff.1 hz0
      have hlen : (x.items ++ List.replicate m Va.zero).length = x.items.length + m := by simp
      have hfin : ∀ (w3 w4 w5 : World) (v' : Value), HpAt w3 (s.less (s.left - ((n : Int) - x.items.length))) → Step w s w3 (s.less (s.left - ((n : Int) - x.items.length))) → Pur w3 w4 → w4.grownBy w5 (Value.slice a x.items.length c).ownBlock → w5.ownsRow 0 33 4 v' n (x.items.flatMap Va.cells ++ (Builtin.zeroCells z0.cells m).toList) → (v'.ownBlock = (Value.slice a x.items.length c).ownBlock ∨ v'.ownBlock = some w4.heap.size) → Left w s (w5.setCell ⟨p.o, 7, none⟩ v') (s.d.turn i { x with items := x.items ++ List.replicate m Va.zero } (s.left - ((n : Int) - x.items.length))) := fun w3 w4 w5 v' h3 k3 hpp hg hv hid => by
        have h4 := h3.pur hpp
        have hv2 := hv
        rw [hzs, zero_cells, ← List.flatMap_append, hnm, ← hlen] at hv2
        rw [← hiv] at hg hid
        have := h4.slice hpl hxl hg hv2 (fun b hb' => by
          rcases hid with e | e
          · exact .inl (e ▸ hb')
          · rw [hb'] at e; simp only [Option.some.injEq] at e; exact .inr (by omega))
        exact ⟨_, this.1, k3.trans ((Step.pur hpp).trans this.2), rfl, fun j => (turn_at (s.less (s.left - ((n : Int) - x.items.length))) i.toNat p ⟨p.o, p.m, p.kv, v'⟩ _ hpl rfl j).trans (less_at s _ j)⟩
      have hfr : ∀ (w3 : World), HpAt w3 (s.less (s.left - ((n : Int) - x.items.length))) → ∀ w4, Pur w3 w4 → w4.heap[p.o]? = some (.cells #[.int .i64 x.kind, .int .i64 x.proto, .int .i64 x.a, .int .i64 x.b, .int .i64 x.scope, p.kv, .map (some p.m), .slice a x.items.length c] 78 (0, 0)) ∧ w4.ownsRow 0 33 4 (.slice a x.items.length c) x.items.length (x.items.flatMap Va.cells) := fun w3 h3 w4 h4 => by
        have hb3 := (h3.pur h4).each _ _ _ hpl hxl
        rw [← hiv]
        exact ⟨hb3.own, hb3.items⟩
      have hne : (Value.slice a x.items.length c).ownBlock ≠ some p.o := by
        rw [← hiv]
        have := pl_nodup h hp
        unfold Pl.blocks at this
        intro e
        rw [e] at this
        simp at this
      clear h hx ho hok hp hxx hat hob hpl hxl hiv hxr hlt hs hlen
      have HN := Lib.hid hnm
      have hmI : Hid ((n : Int) - x.items.length = m) := Lib.hid (by omega)
      clear hnm
      go_enter Tryd.func42, Tryd.ntmps42
      go_wp2_with fail
      refine wp_region_pur (by kernel_rfl) (by kernel_rfl) ?_
      repeat (go_big_quiet_step (fail))
      refine wpQuiet_nil ?_
      intro w1 h1
      have Q7' : ∀ y : PW w1, y.to.cell? ⟨p.o, 7, none⟩ = some (.slice a x.items.length c) := fun y => Q7 ⟨y.to, h1.trans y.pur⟩
      have Q1' : ∀ y : PW w1, y.to.cell? ⟨s.h, 1, none⟩ = some (.int .i64 s.left) := fun y => Q1 ⟨y.to, h1.trans y.pur⟩
      clear Q7 Q1
      go_wp2_with fail
      refine wp_region_pur_tail 12 (by kernel_rfl) (by kernel_rfl) ?_
      simp only [List.take_succ_cons, List.take_zero, List.drop_succ_cons, List.drop_zero]
      repeat (go_big_quiet_step (fail))
      refine wpQuiet_nil ?_
      intro w2 h2
      obtain ⟨f1, g1⟩ := F1 _ (h1.trans h2)
      obtain ⟨h3, k3⟩ := LS _ (h1.trans h2)
      have q7 := bk_cell (hfr _ h3 _ (Pur.refl _)).1 7 _ rfl
      have Q7 : ∀ y : PW (w2.setCell ⟨s.h, 1, none⟩ (.int .i64 (s.left - ((n : Int) - x.items.length)))), y.to.cell? ⟨p.o, 7, none⟩ = some (.slice a x.items.length c) := fun y => bk_cell (hfr _ h3 _ y.pur).1 7 _ rfl
      have hfin' := fun w4 w5 v' => hfin _ w4 w5 v' h3 k3
      have hfr' := hfr _ h3
      clear hfin hfr LS F1 h3 k3 Q7' Q1'
      go_wp2_with fail
      clear f1 g1 q7
      refine wp_region_pur_tail_m 12 [0] [1, 2, 3, 4, 5, 6, 7, 8, 9, 10, 11] (by kernel_rfl) (by kernel_rfl) (fun d _ _ _ _ h => by cases d <;> exact h) ?_
      simp only [List.filterMap_cons, List.filterMap_nil, List.getElem?_cons_succ, List.getElem?_cons_zero, List.drop_succ_cons, List.drop_zero, putM, isMove, List.foldl_cons, List.foldl_nil]
      repeat (quiet_step (fail))
      refine wpQuiet_nil ?_
      intro w4 h4
      obtain ⟨B4, R4⟩ := hfr' _ h4
      refine wpList_append_own_zeros _ rfl _ _ 30 3 rfl 0 33 .i64 .i64 i0 z0 4 40 Tryd.underlying30 Tryd.underlying3 hi hz0 hz1 hz2 (by rw [hzs]; rfl) (by decide) (by rw [hzs]; simp [Va.zero, Va.cells, Value.oneCell']) _ _ _ rfl R4 m ?cx ?c1 ?c2 (Nat.zero_le _) ?_
      case cx => exact congrArg (Value.int IntKind.i64) hmI.out
      case c1 => have := HN.out; unfold maxLen; omega
      case c2 => have := HN.out; omega
      rw [← HN.out]
      intro v5 w5 hown5 hgrow hid
      have B5 := (hgrow.block _ (bk_lt B4) (fun e => hne e.symm)).trans B4
      have f7 := bk_free B5 7
      have q7 := bk_cell B5 7 _ rfl
      have HF := hfin' w4 w5 v5 h4 hgrow hown5 hid
      obtain ⟨a5, c5, rfl⟩ := row_shape hown5
      clear hfin' hfr' hown5 hgrow hid B4 B5 R4 Q7
      go_wp2
      go_ret
      exact ⟨rfl, HF⟩
end Go.Proofs.YtfophnmnehpenaaDoor
