/- Layer 8: (*Heap).Put: a property. -/
import Derived.Test.YtfophnmnehpenaaDoorHm26
import Derived.Maps.OwnSet
namespace Go.Proofs.YtfophnmnehpenaaDoor
open Go Go.RowKit
set_option linter.all false
theorem turned_chg {w w' : World} {b : Nat} (h : w.mapTurned w' b) : Chg [b] w w' := Chg.grown (r := some b) h.grown
set_option maxRecDepth 100000 in
set_option maxHeartbeats 8000000 in
theorem put_prop_full (s : Hs) (i : Int) (x : Ob) (key : List UInt8) (v : Va) (w : World) (h : HpAt w s) {G : Nat} (hok : s.d.Ok G) (hx : s.d.obj i = some x) (hvw : v.wf) (hr : v.right s.d.xs.length = true) (hkl : key.length ≤ 1000000) (hkn : ¬ (x.kind = 2 ∧ key = lenKey)) (hki : (if x.kind = 2 then index key else none) = none) (hbo : (x.props key).isSome = false) (hlt : s.d.left < 1) :
    Calls Tryd.prog 16 #[.pointer (some ⟨s.h, 0, none⟩), .int .i64 i, .string ⟨key.toArray⟩, v.v] w fun e w' => e = .returned (.int .i64 112) ∧ Left w s w' s.d := by
  obtain ⟨k, n, t, r⟩ := v
  have p1 : Pur w (w.alloc (.cells #[.int .i64 k, .float .f64 n, .string ⟨t.toArray⟩, .int .i64 r] 33)) := (Pur.refl w).alloc _
  obtain ⟨p, hp, hxx, hat, hob⟩ := h.pl hx
  have AT := at_any s i _ (h.pur p1)
  rw [hat] at AT
  have RT := right_any s ⟨k, n, t, r⟩ _ (h.pur p1) hvw.1 hvw.2
  rw [show s.ps.length = s.d.xs.length from h.len.symm, hr] at RT
  have V2 : ∀ w2, Pur (w.alloc (.cells #[.int .i64 k, .float .f64 n, .string ⟨t.toArray⟩, .int .i64 r] 33)) w2 → w2.heap[w.heap.size]? = some (.cells #[.int .i64 k, .float .f64 n, .string ⟨t.toArray⟩, .int .i64 r] 33 (0, 0)) := fun w2 h2 => bk_pur (bk_new _ _) h2
  have O2 : ∀ w2, Pur (w.alloc (.cells #[.int .i64 k, .float .f64 n, .string ⟨t.toArray⟩, .int .i64 r] 33)) w2 → HpAt w2 s ∧ ObIn w2 p x := fun w2 h2 => ⟨h.pur (p1.trans h2), (h.pur (p1.trans h2)).each _ _ _ hp hxx⟩
  have IX := fun w => index_any key w (by omega)
  have hkey := key_lit (k := key) (by unfold maxLen; omega)
  have hz := RV_v Va.zero
  obtain ⟨y, hy⟩ : ∃ y, (x.props key).getD Va.zero = y := ⟨_, rfl⟩
  have M2 : ∀ w2, Pur (w.alloc (.cells #[.int .i64 k, .float .f64 n, .string ⟨t.toArray⟩, .int .i64 r] 33)) w2 → ∃ D, w2.ownsMap Tryd.prog 9 RV p.m x.keys.length D ∧ Hid (∀ k, Maps.has D (.string k) = (x.props k).isSome ∧ ∀ z, D.atKey (.string k) z = ((x.props k).map DataW.held).getD z) ∧ D.atKey (.string key) (.held Va.zero) = .held y ∧ Maps.has D (.string key) = false := fun w2 h2 => by
    obtain ⟨D, hD, hf⟩ := (O2 w2 h2).2.props
    refine ⟨D, hD, Lib.hid hf, ?_, (hf key).1.trans hbo⟩
    rw [(hf key).2, ← hy]
    cases x.props key <;> rfl
  obtain ⟨yk, yn, yt, yr⟩ := y
  have ways : (x.kind = 2 ∧ (key == lenKey) = false ∧ ix (index key) = (0, false)) ∨ (decide (x.kind = 2) = false ∧ ix (index key) = (0, false)) ∨ (decide (x.kind = 2) = false ∧ ∃ q : Int, ix (index key) = (q, true)) := by
    by_cases h2 : x.kind = 2
    · rw [if_pos h2] at hki
      exact .inl ⟨h2, eqkey_no (fun e => hkn ⟨h2, e⟩), by rw [hki]; rfl⟩
    · right
      have hd : decide (x.kind = 2) = false := decide_eq_false h2
      rcases index key with _ | q
      · exact .inl ⟨hd, rfl⟩
      · exact .inr ⟨hd, q, rfl⟩
  have hfin : ∀ w', Pur w w' → Left w s w' s.d := fun w' hpp => ⟨s, h.pur hpp, Step.pur hpp, rfl, fun _ => rfl⟩
  have hltD : s.left < 1 := hlt
  simp only [Va.v, Va.cells] at *
  clear h hx hp hxx hat hr hok hvw hob hbo hy hkn hki hlt
  rcases ways with ⟨hk, q1, hi⟩ | ⟨hk, hi⟩ | ⟨hk, q, hi⟩
  all_goals
    try rw [hi] at IX
    try (simp only [hi] at IX)
    try unfold lenKey at q1
    try have hk' := of_decide_eq_false hk
    go_enter Tryd.func16, Tryd.ntmps16
    go_wp2_with fail
    go_wp2_with fail
    refine (AT).mono ?_
    rintro e w2 ⟨rfl, rfl⟩
    go_wp2_with fail
    go_wp2_with fail
    refine (RT).mono ?_
    rintro e w2 ⟨rfl, h2⟩
    have ob := (O2 _ h2).2.own
    try rw [hk] at ob
    have q0 := bk_cell ob 0 _ rfl
    clear AT RT ob
    go_wp2_with fail
    refine (IX _).mono ?_
    rintro e w3 ⟨rfl, h3⟩
    have h23 := h2.trans h3
    have B := (O2 _ h23).2.own
    try rw [hk] at B
    have q0 := bk_cell B 0 _ rfl
    have q6 := bk_cell B 6 _ rfl
    have B4 := bk_alloc B (.cells #[.int .i64 yk, .float .f64 yn, .string ⟨yt.toArray⟩, .int .i64 yr] 33)
    have HB4 := bk_alloc (O2 _ h23).1.own (.cells #[.int .i64 yk, .float .f64 yn, .string ⟨yt.toArray⟩, .int .i64 yr] 33)
    have V4 := bk_alloc (V2 _ h23) (.cells #[.int .i64 yk, .float .f64 yn, .string ⟨yt.toArray⟩, .int .i64 yr] 33)
    obtain ⟨D, hD, hf, f3, f1⟩ := M2 _ h23
    have g1 := bk_cell HB4 1 _ rfl
    clear IX V2 M2 O2 B
    go_wp2_with (at_lookup; refine wpList_lookup_own_ok _ rfl _ _ 76 rfl 9 33 va_law Tryd.underlying76 _ (zero_va _) (.held Va.zero) [] hz p.m _ D rfl hD _ _ rfl hkey ?_)
    intro v ps hv
    try rw [f3] at hv
    obtain rfl := RV_inv hv
    try rw [f1]
    simp only [Va.v, Va.cells]
    go_wp2
    go_ret
    exact ⟨rfl, hfin _ ((p1.trans h23).alloc _)⟩
set_option maxRecDepth 100000 in
set_option maxHeartbeats 8000000 in
theorem put_prop_old (s : Hs) (i : Int) (x : Ob) (key : List UInt8) (v : Va) (w : World) (h : HpAt w s) {G : Nat} (hok : s.d.Ok G) (hx : s.d.obj i = some x) (hvw : v.wf) (hr : v.right s.d.xs.length = true) (hkl : key.length ≤ 1000000) (hkn : ¬ (x.kind = 2 ∧ key = lenKey)) (hki : (if x.kind = 2 then index key else none) = none) (hbo : (x.props key).isSome = true) :
    Calls Tryd.prog 16 #[.pointer (some ⟨s.h, 0, none⟩), .int .i64 i, .string ⟨key.toArray⟩, v.v] w fun e w' => e = .returned (.int .i64 0) ∧ Left w s w' (s.d.turn i (x.prop key v) s.d.left) := by
  obtain ⟨k, n, t, r⟩ := v
  have p1 : Pur w (w.alloc (.cells #[.int .i64 k, .float .f64 n, .string ⟨t.toArray⟩, .int .i64 r] 33)) := (Pur.refl w).alloc _
  obtain ⟨p, hp, hxx, hat, hob⟩ := h.pl hx
  have AT := at_any s i _ (h.pur p1)
  rw [hat] at AT
  have RT := right_any s ⟨k, n, t, r⟩ _ (h.pur p1) hvw.1 hvw.2
  rw [show s.ps.length = s.d.xs.length from h.len.symm, hr] at RT
  have V2 : ∀ w2, Pur (w.alloc (.cells #[.int .i64 k, .float .f64 n, .string ⟨t.toArray⟩, .int .i64 r] 33)) w2 → w2.heap[w.heap.size]? = some (.cells #[.int .i64 k, .float .f64 n, .string ⟨t.toArray⟩, .int .i64 r] 33 (0, 0)) := fun w2 h2 => bk_pur (bk_new _ _) h2
  have O2 : ∀ w2, Pur (w.alloc (.cells #[.int .i64 k, .float .f64 n, .string ⟨t.toArray⟩, .int .i64 r] 33)) w2 → HpAt w2 s ∧ ObIn w2 p x := fun w2 h2 => ⟨h.pur (p1.trans h2), (h.pur (p1.trans h2)).each _ _ _ hp hxx⟩
  have IX := fun w => index_any key w (by omega)
  have hkey := key_lit (k := key) (by unfold maxLen; omega)
  have hz := RV_v Va.zero
  obtain ⟨y, hy⟩ : ∃ y, (x.props key).getD Va.zero = y := ⟨_, rfl⟩
  have M2 : ∀ w2, Pur (w.alloc (.cells #[.int .i64 k, .float .f64 n, .string ⟨t.toArray⟩, .int .i64 r] 33)) w2 → ∃ D, w2.ownsMap Tryd.prog 9 RV p.m x.keys.length D ∧ Hid (∀ k, Maps.has D (.string k) = (x.props k).isSome ∧ ∀ z, D.atKey (.string k) z = ((x.props k).map DataW.held).getD z) ∧ D.atKey (.string key) (.held Va.zero) = .held y ∧ Maps.has D (.string key) = true := fun w2 h2 => by
    obtain ⟨D, hD, hf⟩ := (O2 w2 h2).2.props
    refine ⟨D, hD, Lib.hid hf, ?_, (hf key).1.trans hbo⟩
    rw [(hf key).2, ← hy]
    cases x.props key <;> rfl
  obtain ⟨yk, yn, yt, yr⟩ := y
  have ways : (x.kind = 2 ∧ (key == lenKey) = false ∧ ix (index key) = (0, false)) ∨ (decide (x.kind = 2) = false ∧ ix (index key) = (0, false)) ∨ (decide (x.kind = 2) = false ∧ ∃ q : Int, ix (index key) = (q, true)) := by
    by_cases h2 : x.kind = 2
    · rw [if_pos h2] at hki
      exact .inl ⟨h2, eqkey_no (fun e => hkn ⟨h2, e⟩), by rw [hki]; rfl⟩
    · right
      have hd : decide (x.kind = 2) = false := decide_eq_false h2
      rcases index key with _ | q
      · exact .inl ⟨hd, rfl⟩
      · exact .inr ⟨hd, q, rfl⟩
  have hkl2 := (hok.mem (Hd.obj_mem hx).1).1
  have hxp : x.prop key ⟨k, n, t, r⟩ = { x with keys := x.keys, props := upd x.props key (some ⟨k, n, t, r⟩) } := by unfold Ob.prop; rw [if_pos hbo]
  rw [hxp]
  have hval := RV_v ⟨k, n, t, r⟩
  have hfin : ∀ w5 w6 D, Pur w w5 → w5.ownsMap Tryd.prog 9 RV p.m x.keys.length D → (∀ k, Maps.has D (.string k) = (x.props k).isSome ∧ ∀ z, D.atKey (.string k) z = ((x.props k).map DataW.held).getD z) → w6.ownsMap Tryd.prog 9 RV p.m (x.keys.length + 1) (D.put (.string key) (.held ⟨k, n, t, r⟩)) → w5.mapTurned w6 p.m → Left w s w6 (s.d.turn i { x with keys := x.keys, props := upd x.props key (some ⟨k, n, t, r⟩) } s.d.left) := fun w5 w6 D h5 hD hf h6 ht => by
    have hh := h.pur h5
    have hob5 := hh.each _ _ _ hp hxx
    have hc := turned_chg ht
    have hnd := pl_nodup h hp
    have hlt5 := hob5.lt
    unfold Pl.blocks at hnd
    simp only [List.nodup_cons, List.mem_cons, List.mem_append, not_or, Option.mem_toList] at hnd
    have := hh.props hp hxx (w2 := w6) (v' := p.kv) (ks := x.keys) (f := upd x.props key (some ⟨k, n, t, r⟩)) (hc.sub (fun b hb => by simp at hb; simp [hb])) ((hc.block _ (bk_lt hob5.own) (by simpa using hnd.1.1)).trans hob5.own)
      (World.ownsRow_same hob5.keys (fun g hg => hc.block g (hlt5 g (by simp [Pl.blocks, hg])) (by simp only [List.mem_singleton]; exact fun e => hnd.2.1.1 (e ▸ hg)))) (MapAt.put hD hf h6 (by rw [if_pos hbo])) (fun b hb => .inl hb)
    exact ⟨_, this.1, (Step.pur h5).trans this.2, rfl, fun j => turn_at s i.toNat p ⟨p.o, p.m, p.kv, p.iv⟩ _ hp rfl j⟩
  have hnm : x.keys.length < maxLen := by unfold maxLen; omega
  simp only [Va.v, Va.cells] at *
  clear h hx hp hxx hat hr hok hvw hob hbo hy hkn hki hxp
  rcases ways with ⟨hk, q1, hi⟩ | ⟨hk, hi⟩ | ⟨hk, q, hi⟩
  all_goals
    try rw [hi] at IX
    try (simp only [hi] at IX)
    try unfold lenKey at q1
    try have hk' := of_decide_eq_false hk
    go_enter Tryd.func16, Tryd.ntmps16
    go_wp2_with fail
    go_wp2_with fail
    refine (AT).mono ?_
    rintro e w2 ⟨rfl, rfl⟩
    go_wp2_with fail
    go_wp2_with fail
    refine (RT).mono ?_
    rintro e w2 ⟨rfl, h2⟩
    have ob := (O2 _ h2).2.own
    try rw [hk] at ob
    have q0 := bk_cell ob 0 _ rfl
    clear AT RT ob
    go_wp2_with fail
    refine (IX _).mono ?_
    rintro e w3 ⟨rfl, h3⟩
    have h23 := h2.trans h3
    have B := (O2 _ h23).2.own
    try rw [hk] at B
    have q0 := bk_cell B 0 _ rfl
    have q6 := bk_cell B 6 _ rfl
    have B4 := bk_alloc B (.cells #[.int .i64 yk, .float .f64 yn, .string ⟨yt.toArray⟩, .int .i64 yr] 33)
    have HB4 := bk_alloc (O2 _ h23).1.own (.cells #[.int .i64 yk, .float .f64 yn, .string ⟨yt.toArray⟩, .int .i64 yr] 33)
    have V4 := bk_alloc (V2 _ h23) (.cells #[.int .i64 yk, .float .f64 yn, .string ⟨yt.toArray⟩, .int .i64 yr] 33)
    obtain ⟨D, hD, hf, f3, f1⟩ := M2 _ h23
    have hD4 := hD.alloc (.cells #[.int .i64 yk, .float .f64 yn, .string ⟨yt.toArray⟩, .int .i64 yr] 33)
    clear IX V2 M2 O2 B
    go_wp2_with (at_lookup; refine wpList_lookup_own_ok _ rfl _ _ 76 rfl 9 33 va_law Tryd.underlying76 _ (zero_va _) (.held Va.zero) [] hz p.m _ D rfl hD _ _ rfl hkey ?_)
    intro v ps hv
    try rw [f3] at hv
    obtain rfl := RV_inv hv
    try rw [f1]
    simp only [Va.v, Va.cells]
    have p4 := (p1.trans h23).alloc (.cells #[.int .i64 yk, .float .f64 yn, .string ⟨yt.toArray⟩, .int .i64 yr] 33)
    have Z6 : ∀ z : PW (w3.alloc (.cells #[.int .i64 yk, .float .f64 yn, .string ⟨yt.toArray⟩, .int .i64 yr] 33)), z.to.cell? ⟨p.o, 6, none⟩ = some (.map (some p.m)) := fun z => bk_cell (bk_pur B4 z.pur) 6 _ rfl
    have Z0 : ∀ z : PW (w3.alloc (.cells #[.int .i64 yk, .float .f64 yn, .string ⟨yt.toArray⟩, .int .i64 yr] 33)), z.to.cell? ⟨w.heap.size, 0, none⟩ = some (.int .i64 k) := fun z => bk_cell (bk_pur V4 z.pur) 0 _ rfl
    have Z1 : ∀ z : PW (w3.alloc (.cells #[.int .i64 yk, .float .f64 yn, .string ⟨yt.toArray⟩, .int .i64 yr] 33)), z.to.cell? ⟨w.heap.size, 1, none⟩ = some (.float .f64 n) := fun z => bk_cell (bk_pur V4 z.pur) 1 _ rfl
    have Z2 : ∀ z : PW (w3.alloc (.cells #[.int .i64 yk, .float .f64 yn, .string ⟨yt.toArray⟩, .int .i64 yr] 33)), z.to.cell? ⟨w.heap.size, 2, none⟩ = some (.string ⟨t.toArray⟩) := fun z => bk_cell (bk_pur V4 z.pur) 2 _ rfl
    have Z3 : ∀ z : PW (w3.alloc (.cells #[.int .i64 yk, .float .f64 yn, .string ⟨yt.toArray⟩, .int .i64 yr] 33)), z.to.cell? ⟨w.heap.size, 3, none⟩ = some (.int .i64 r) := fun z => bk_cell (bk_pur V4 z.pur) 3 _ rfl
    clear q0 q6 B4 HB4 V4
    go_wp2_with fail
    refine wp_region_pur_tail 6 (by kernel_rfl) (by kernel_rfl) ?_
    simp only [List.take_succ_cons, List.take_zero, List.drop_succ_cons, List.drop_zero]
    repeat (go_big_quiet_step (fail))
    refine wpQuiet_nil ?_
    intro w5 h5
    have hD5 := World.ownsMap_same hD4 (h5.block _ hD4.lt)
    refine wpList_mapUpdate_in _ rfl _ _ _ 76 rfl 9 33 va_law Tryd.underlying76 RV p.m _ D rfl hD5 hnm _ _ _ rfl rfl hkey _ _ hval ?_
    intro w6 hown6 ht6
    have HF := hfin w5 w6 D (p4.trans h5) hD5 hf.out hown6 ht6
    clear hfin hD hD4 hD5 hown6 ht6 Z0 Z1 Z2 Z3 Z6 hf
    go_wp2
    go_ret
    exact ⟨rfl, HF⟩
end Go.Proofs.YtfophnmnehpenaaDoor
