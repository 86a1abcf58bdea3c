/- Layer 8: (*Heap).Put: a property. Layer 8: (*Heap).Put: a new property. Layer 8: (*Heap).Put, whole. -/
import Derived.Test.YtfophnmnehpenaaDoorHA7
import Derived.Maps.OwnSet
namespace Go.Proofs.YtfophnmnehpenaaDoor
open Go Go.RowKit
set_option linter.all false
theorem turned_chg {w w' : World} {b : Nat} (h : w.mapTurned w' b) : Chg [b] w w' := Chg.grown (r := some b) h.grown
set_option maxRecDepth 100000 in
set_option maxHeartbeats 8000000 in
theorem put_prop_full (s : Hs) (i : Int) (x : Ob) (key : List UInt8) (v : Va) (w : World) (h : HpAt w s) {G : Nat} (hok : s.d.Ok G) (hx : s.d.obj i = some x) (hvw : v.wf) (hr : v.right s.d.xs.length = true) (hkl : key.length ≤ 1000000) (hkn : ¬ (x.kind = 2 ∧ key = lenKey)) (hki : (if x.kind = 2 then index key else none) = none) (hbo : (x.props key).isSome = false) (hlt : s.d.left < 1) :
    Calls Tryd.prog 16 #[.pointer (some ⟨s.h, 0, none⟩), .int .i64 i, .string ⟨key.toArray⟩, v.v] w fun e w' => e = .returned (.int .i64 112) ∧ Left w s w' s.d := by
  obtain ⟨k, n, t, r⟩ := v
  have p1 : Pur w (w.alloc (.cells #[.int .i64 k, .float .f64 n, .string ⟨t.toArray⟩, .int .i64 r] 33)) := (Pur.refl w).alloc _
  obtain ⟨p, hp, hxx, hat, hob⟩ := h.pl hx
  have AT := at_any s i _ (h.pur p1)
  rw [hat] at AT
  have RT := right_any s ⟨k, n, t, r⟩ _ (h.pur p1) hvw.1 hvw.2
  rw [show s.ps.length = s.d.xs.length from h.len.symm, hr] at RT
  have V2 : ∀ w2, Pur (w.alloc (.cells #[.int .i64 k, .float .f64 n, .string ⟨t.toArray⟩, .int .i64 r] 33)) w2 → w2.heap[w.heap.size]? = some (.cells #[.int .i64 k, .float .f64 n, .string ⟨t.toArray⟩, .int .i64 r] 33 (0, 0)) := fun w2 h2 => bk_pur (bk_new _ _) h2
  have O2 : ∀ w2, Pur (w.alloc (.cells #[.int .i64 k, .float .f64 n, .string ⟨t.toArray⟩, .int .i64 r] 33)) w2 → HpAt w2 s ∧ ObIn w2 p x := fun w2 h2 => ⟨h.pur (p1.trans h2), (h.pur (p1.trans h2)).each _ _ _ hp hxx⟩
  have IX := fun w => index_any key w (by omega)
  have hkey := key_lit (k := key) (by unfold maxLen; omega)
  have hz := RV_v Va.zero
  obtain ⟨y, hy⟩ : ∃ y, (x.props key).getD Va.zero = y := ⟨_, rfl⟩
  have M2 : ∀ w2, Pur (w.alloc (.cells #[.int .i64 k, .float .f64 n, .string ⟨t.toArray⟩, .int .i64 r] 33)) w2 → ∃ D, w2.ownsMap Tryd.prog 9 RV p.m x.keys.length D ∧ Hid (∀ k, Maps.has D (.string k) = (x.props k).isSome ∧ ∀ z, D.atKey (.string k) z = ((x.props k).map DataW.held).getD z) ∧ D.atKey (.string key) (.held Va.zero) = .held y ∧ Maps.has D (.string key) = false := fun w2 h2 => by
    obtain ⟨D, hD, hf⟩ := (O2 w2 h2).2.props
    refine ⟨D, hD, Lib.hid hf, ?_, (hf key).1.trans hbo⟩
    rw [(hf key).2, ← hy]
    cases x.props key <;> rfl
  obtain ⟨yk, yn, yt, yr⟩ := y
  have ways : (x.kind = 2 ∧ (key == lenKey) = false ∧ ix (index key) = (0, false)) ∨ (decide (x.kind = 2) = false ∧ ix (index key) = (0, false)) ∨ (decide (x.kind = 2) = false ∧ ∃ q : Int, ix (index key) = (q, true)) := by
    by_cases h2 : x.kind = 2
    · rw [if_pos h2] at hki
      exact .inl ⟨h2, eqkey_no (fun e => hkn ⟨h2, e⟩), by rw [hki]; rfl⟩
    · right
      have hd : decide (x.kind = 2) = false := decide_eq_false h2
      rcases index key with _ | q
      · exact .inl ⟨hd, rfl⟩
      · exact .inr ⟨hd, q, rfl⟩
  have hfin : ∀ w', Pur w w' → Left w s w' s.d := fun w' hpp => ⟨s, h.pur hpp, Step.pur hpp, rfl, fun _ => rfl⟩
  have hltD : s.left < 1 := hlt
  simp only [Va.v, Va.cells] at *
  clear h hx hp hxx hat hr hok hvw hob hbo hy hkn hki hlt
  rcases ways with ⟨hk, q1, hi⟩ | ⟨hk, hi⟩ | ⟨hk, q, hi⟩
  all_goals
    try rw [hi] at IX
    try (simp only [hi] at IX)
    try unfold lenKey at q1
    try have hk' := of_decide_eq_false hk
    go_enter Tryd.func16, Tryd.ntmps16
    go_wp2_with fail
    go_wp2_with fail
    refine (AT).mono ?_
    rintro e w2 ⟨rfl, rfl⟩
    go_wp2_with fail
    go_wp2_with fail
    refine (RT).mono ?_
    rintro e w2 ⟨rfl, h2⟩
    have ob := (O2 _ h2).2.own
    try rw [hk] at ob
    have q0 := bk_cell ob 0 _ rfl
    clear AT RT ob
    go_wp2_with fail
    refine (IX _).mono ?_
    rintro e w3 ⟨rfl, h3⟩
    have h23 := h2.trans h3
    have B := (O2 _ h23).2.own
    try rw [hk] at B
    have q0 := bk_cell B 0 _ rfl
    have q6 := bk_cell B 6 _ rfl
    have B4 := bk_alloc B (.cells #[.int .i64 yk, .float .f64 yn, .string ⟨yt.toArray⟩, .int .i64 yr] 33)
    have HB4 := bk_alloc (O2 _ h23).1.own (.cells #[.int .i64 yk, .float .f64 yn, .string ⟨yt.toArray⟩, .int .i64 yr] 33)
    have V4 := bk_alloc (V2 _ h23) (.cells #[.int .i64 yk, .float .f64 yn, .string ⟨yt.toArray⟩, .int .i64 yr] 33)
    obtain ⟨D, hD, hf, f3, f1⟩ := M2 _ h23
    have g1 := bk_cell HB4 1 _ rfl
    clear IX V2 M2 O2 B
    go_wp2_with (at_lookup; refine wpList_lookup_own_ok _ rfl _ _ 76 rfl 9 33 va_law Tryd.underlying76 _ (zero_va _) (.held Va.zero) [] hz p.m _ D rfl hD _ _ rfl hkey ?_)
    intro v ps hv
    try rw [f3] at hv
    obtain rfl := RV_inv hv
    try rw [f1]
    simp only [Va.v, Va.cells]
    go_wp2
    go_ret
    exact ⟨rfl, hfin _ ((p1.trans h23).alloc _)⟩
set_option maxRecDepth 100000 in
set_option maxHeartbeats 8000000 in
theorem put_prop_old (s : Hs) (i : Int) (x : Ob) (key : List UInt8) (v : Va) (w : World) (h : HpAt w s) {G : Nat} (hok : s.d.Ok G) (hx : s.d.obj i = some x) (hvw : v.wf) (hr : v.right s.d.xs.length = true) (hkl : key.length ≤ 1000000) (hkn : ¬ (x.kind = 2 ∧ key = lenKey)) (hki : (if x.kind = 2 then index key else none) = none) (hbo : (x.props key).isSome = true) :
    Calls Tryd.prog 16 #[.pointer (some ⟨s.h, 0, none⟩), .int .i64 i, .string ⟨key.toArray⟩, v.v] w fun e w' => e = .returned (.int .i64 0) ∧ Left w s w' (s.d.turn i (x.prop key v) s.d.left) := by
  obtain ⟨k, n, t, r⟩ := v
  have p1 : Pur w (w.alloc (.cells #[.int .i64 k, .float .f64 n, .string ⟨t.toArray⟩, .int .i64 r] 33)) := (Pur.refl w).alloc _
  obtain ⟨p, hp, hxx, hat, hob⟩ := h.pl hx
  have AT := at_any s i _ (h.pur p1)
  rw [hat] at AT
  have RT := right_any s ⟨k, n, t, r⟩ _ (h.pur p1) hvw.1 hvw.2
  rw [show s.ps.length = s.d.xs.length from h.len.symm, hr] at RT
  have V2 : ∀ w2, Pur (w.alloc (.cells #[.int .i64 k, .float .f64 n, .string ⟨t.toArray⟩, .int .i64 r] 33)) w2 → w2.heap[w.heap.size]? = some (.cells #[.int .i64 k, .float .f64 n, .string ⟨t.toArray⟩, .int .i64 r] 33 (0, 0)) := fun w2 h2 => bk_pur (bk_new _ _) h2
  have O2 : ∀ w2, Pur (w.alloc (.cells #[.int .i64 k, .float .f64 n, .string ⟨t.toArray⟩, .int .i64 r] 33)) w2 → HpAt w2 s ∧ ObIn w2 p x := fun w2 h2 => ⟨h.pur (p1.trans h2), (h.pur (p1.trans h2)).each _ _ _ hp hxx⟩
  have IX := fun w => index_any key w (by omega)
  have hkey := key_lit (k := key) (by unfold maxLen; omega)
  have hz := RV_v Va.zero
  obtain ⟨y, hy⟩ : ∃ y, (x.props key).getD Va.zero = y := ⟨_, rfl⟩
  have M2 : ∀ w2, Pur (w.alloc (.cells #[.int .i64 k, .float .f64 n, .string ⟨t.toArray⟩, .int .i64 r] 33)) w2 → ∃ D, w2.ownsMap Tryd.prog 9 RV p.m x.keys.length D ∧ Hid (∀ k, Maps.has D (.string k) = (x.props k).isSome ∧ ∀ z, D.atKey (.string k) z = ((x.props k).map DataW.held).getD z) ∧ D.atKey (.string key) (.held Va.zero) = .held y ∧ Maps.has D (.string key) = true := fun w2 h2 => by
    obtain ⟨D, hD, hf⟩ := (O2 w2 h2).2.props
    refine ⟨D, hD, Lib.hid hf, ?_, (hf key).1.trans hbo⟩
    rw [(hf key).2, ← hy]
    cases x.props key <;> rfl
  obtain ⟨yk, yn, yt, yr⟩ := y
  have ways : (x.kind = 2 ∧ (key == lenKey) = false ∧ ix (index key) = (0, false)) ∨ (decide (x.kind = 2) = false ∧ ix (index key) = (0, false)) ∨ (decide (x.kind = 2) = false ∧ ∃ q : Int, ix (index key) = (q, true)) := by
    by_cases h2 : x.kind = 2
    · rw [if_pos h2] at hki
      exact .inl ⟨h2, eqkey_no (fun e => hkn ⟨h2, e⟩), by rw [hki]; rfl⟩
    · right
      have hd : decide (x.kind = 2) = false := decide_eq_false h2
      rcases index key with _ | q
      · exact .inl ⟨hd, rfl⟩
      · exact .inr ⟨hd, q, rfl⟩
  have hkl2 := (hok.mem (Hd.obj_mem hx).1).1
  have hxp : x.prop key ⟨k, n, t, r⟩ = { x with keys := x.keys, props := upd x.props key (some ⟨k, n, t, r⟩) } := by unfold Ob.prop; rw [if_pos hbo]
  rw [hxp]
  have hval := RV_v ⟨k, n, t, r⟩
  have hfin : ∀ w5 w6 D, Pur w w5 → w5.ownsMap Tryd.prog 9 RV p.m x.keys.length D → (∀ k, Maps.has D (.string k) = (x.props k).isSome ∧ ∀ z, D.atKey (.string k) z = ((x.props k).map DataW.held).getD z) → w6.ownsMap Tryd.prog 9 RV p.m (x.keys.length + 1) (D.put (.string key) (.held ⟨k, n, t, r⟩)) → w5.mapTurned w6 p.m → Left w s w6 (s.d.turn i { x with keys := x.keys, props := upd x.props key (some ⟨k, n, t, r⟩) } s.d.left) := fun w5 w6 D h5 hD hf h6 ht => by
    have hh := h.pur h5
    have hob5 := hh.each _ _ _ hp hxx
    have hc := turned_chg ht
    have hnd := pl_nodup h hp
    have hlt5 := hob5.lt
    unfold Pl.blocks at hnd
    simp only [List.nodup_cons, List.mem_cons, List.mem_append, not_or, Option.mem_toList] at hnd
    have := hh.props hp hxx (w2 := w6) (v' := p.kv) (ks := x.keys) (f := upd x.props key (some ⟨k, n, t, r⟩)) (hc.sub (fun b hb => by simp at hb; simp [hb])) ((hc.block _ (bk_lt hob5.own) (by simpa using hnd.1.1)).trans hob5.own)
      (World.ownsRow_same hob5.keys (fun g hg => hc.block g (hlt5 g (by simp [Pl.blocks, hg])) (by simp only [List.mem_singleton]; exact fun e => hnd.2.1.1 (e ▸ hg)))) (MapAt.put hD hf h6 (by rw [if_pos hbo])) (fun b hb => .inl hb)
    exact ⟨_, this.1, (Step.pur h5).trans this.2, rfl, fun j => turn_at s i.toNat p ⟨p.o, p.m, p.kv, p.iv⟩ _ hp rfl j⟩
  have hnm : x.keys.length < maxLen := by unfold maxLen; omega
  simp only [Va.v, Va.cells] at *
  clear h hx hp hxx hat hr hok hvw hob hbo hy hkn hki hxp
  rcases ways with ⟨hk, q1, hi⟩ | ⟨hk, hi⟩ | ⟨hk, q, hi⟩
  all_goals
    try rw [hi] at IX
    try (simp only [hi] at IX)
    try unfold lenKey at q1
    try have hk' := of_decide_eq_false hk
    go_enter Tryd.func16, Tryd.ntmps16
    go_wp2_with fail
    go_wp2_with fail
    refine (AT).mono ?_
    rintro e w2 ⟨rfl, rfl⟩
    go_wp2_with fail
    go_wp2_with fail
    refine (RT).mono ?_
    rintro e w2 ⟨rfl, h2⟩
    have ob := (O2 _ h2).2.own
    try rw [hk] at ob
    have q0 := bk_cell ob 0 _ rfl
    clear AT RT ob
    go_wp2_with fail
    refine (IX _).mono ?_
    rintro e w3 ⟨rfl, h3⟩
    have h23 := h2.trans h3
    have B := (O2 _ h23).2.own
    try rw [hk] at B
    have q0 := bk_cell B 0 _ rfl
    have q6 := bk_cell B 6 _ rfl
    have B4 := bk_alloc B (.cells #[.int .i64 yk, .float .f64 yn, .string ⟨yt.toArray⟩, .int .i64 yr] 33)
    have HB4 := bk_alloc (O2 _ h23).1.own (.cells #[.int .i64 yk, .float .f64 yn, .string ⟨yt.toArray⟩, .int .i64 yr] 33)
    have V4 := bk_alloc (V2 _ h23) (.cells #[.int .i64 yk, .float .f64 yn, .string ⟨yt.toArray⟩, .int .i64 yr] 33)
    obtain ⟨D, hD, hf, f3, f1⟩ := M2 _ h23
    have hD4 := hD.alloc (.cells #[.int .i64 yk, .float .f64 yn, .string ⟨yt.toArray⟩, .int .i64 yr] 33)
    clear IX V2 M2 O2 B
    go_wp2_with (at_lookup; refine wpList_lookup_own_ok _ rfl _ _ 76 rfl 9 33 va_law Tryd.underlying76 _ (zero_va _) (.held Va.zero) [] hz p.m _ D rfl hD _ _ rfl hkey ?_)
    intro v ps hv
    try rw [f3] at hv
    obtain rfl := RV_inv hv
    try rw [f1]
    simp only [Va.v, Va.cells]
    have p4 := (p1.trans h23).alloc (.cells #[.int .i64 yk, .float .f64 yn, .string ⟨yt.toArray⟩, .int .i64 yr] 33)
    have Z6 : ∀ z : PW (w3.alloc (.cells #[.int .i64 yk, .float .f64 yn, .string ⟨yt.toArray⟩, .int .i64 yr] 33)), z.to.cell? ⟨p.o, 6, none⟩ = some (.map (some p.m)) := fun z => bk_cell (bk_pur B4 z.pur) 6 _ rfl
    have Z0 : ∀ z : PW (w3.alloc (.cells #[.int .i64 yk, .float .f64 yn, .string ⟨yt.toArray⟩, .int .i64 yr] 33)), z.to.cell? ⟨w.heap.size, 0, none⟩ = some (.int .i64 k) := fun z => bk_cell (bk_pur V4 z.pur) 0 _ rfl
    have Z1 : ∀ z : PW (w3.alloc (.cells #[.int .i64 yk, .float .f64 yn, .string ⟨yt.toArray⟩, .int .i64 yr] 33)), z.to.cell? ⟨w.heap.size, 1, none⟩ = some (.float .f64 n) := fun z => bk_cell (bk_pur V4 z.pur) 1 _ rfl
    have Z2 : ∀ z : PW (w3.alloc (.cells #[.int .i64 yk, .float .f64 yn, .string ⟨yt.toArray⟩, .int .i64 yr] 33)), z.to.cell? ⟨w.heap.size, 2, none⟩ = some (.string ⟨t.toArray⟩) := fun z => bk_cell (bk_pur V4 z.pur) 2 _ rfl
    have Z3 : ∀ z : PW (w3.alloc (.cells #[.int .i64 yk, .float .f64 yn, .string ⟨yt.toArray⟩, .int .i64 yr] 33)), z.to.cell? ⟨w.heap.size, 3, none⟩ = some (.int .i64 r) := fun z => bk_cell (bk_pur V4 z.pur) 3 _ rfl
    clear q0 q6 B4 HB4 V4
    go_wp2_with fail
    refine wp_region_pur_tail 6 (by kernel_rfl) (by kernel_rfl) ?_
    simp only [List.take_succ_cons, List.take_zero, List.drop_succ_cons, List.drop_zero]
    repeat (go_big_quiet_step (fail))
    refine wpQuiet_nil ?_
    intro w5 h5
    have hD5 := World.ownsMap_same hD4 (h5.block _ hD4.lt)
    refine wpList_mapUpdate_in _ rfl _ _ _ 76 rfl 9 33 va_law Tryd.underlying76 RV p.m _ D rfl hD5 hnm _ _ _ rfl rfl hkey _ _ hval ?_
    intro w6 hown6 ht6
    have HF := hfin w5 w6 D (p4.trans h5) hD5 hf.out hown6 ht6
    clear hfin hD hD4 hD5 hown6 ht6 Z0 Z1 Z2 Z3 Z6 hf
    go_wp2
    go_ret
    exact ⟨rfl, HF⟩
end Go.Proofs.YtfophnmnehpenaaDoor
namespace Go.Proofs.YtfophnmnehpenaaDoor
open Go Go.RowKit
set_option linter.all false
theorem str_info : (Tryd.prog.info? 9).map (fun i => (i.zero.map (·.cells.size), i.size, i.bytes)) = some (some 1, 1, 16) := by kernel_rfl
theorem prop_added {w4 w5 w7 w8 : World} {s : Hs} (h : HpAt w4 s) {i : Nat} {p : Pl} {x : Ob} (hp : s.ps[i]? = some p) (hx : s.xs[i]? = some x) {v5 : Value} {O : Obj} {key : List UInt8} {v : Va} {D : DataW Va}
    (hgrow : (w4.alloc O).grownBy w5 p.kv.ownBlock) (hown : w5.ownsRow 0 9 1 v5 (x.keys.length + 1) (keyVs x.keys ++ [.string ⟨key.toArray⟩]))
    (hid : v5.ownBlock = p.kv.ownBlock ∨ v5.ownBlock = some (w4.alloc O).heap.size) (h7 : Pur (w5.setCell ⟨p.o, 5, none⟩ v5) w7) (hD : w7.ownsMap Tryd.prog 9 RV p.m x.keys.length D)
    (hf : ∀ k, Maps.has D (.string k) = (x.props k).isSome ∧ ∀ z, D.atKey (.string k) z = ((x.props k).map DataW.held).getD z)
    (h8 : w8.ownsMap Tryd.prog 9 RV p.m (x.keys.length + 1) (D.put (.string key) (.held v))) (ht : w7.mapTurned w8 p.m) (hbo : (x.props key).isSome = false) :
    HpAt w8 (s.turn i ⟨p.o, p.m, v5, p.iv⟩ { x with keys := x.keys ++ [key], props := upd x.props key (some v) }) ∧ Step w4 s w8 (s.turn i ⟨p.o, p.m, v5, p.iv⟩ { x with keys := x.keys ++ [key], props := upd x.props key (some v) }) := by
  have hob := h.each i p x hp hx
  have hnd := pl_nodup h hp
  have hlt := hob.lt
  have lo := hlt p.o (by simp [Pl.blocks])
  have lm := hlt p.m (by simp [Pl.blocks])
  unfold Pl.blocks at hnd
  simp only [List.nodup_cons, List.mem_cons, List.mem_append, not_or, Option.mem_toList] at hnd
  obtain ⟨⟨n1, n2, n3⟩, ⟨n4, n5⟩, n6⟩ := hnd
  have hsz : (w4.alloc O).heap.size = w4.heap.size + 1 := by simp
  have hc := turned_chg ht
  have hg5 : ∀ g, v5.ownBlock = some g → g ≠ p.o ∧ g ≠ p.m ∧ (p.kv.ownBlock = some g ∨ w4.heap.size ≤ g) := fun g hg => by
    rcases hid with e | e
    · rw [hg] at e
      exact ⟨fun h => n2 (by rw [← e, h]), fun h => n4 (by rw [← e, h]), .inl e.symm⟩
    · rw [hg] at e
      simp only [Option.some.injEq] at e
      exact ⟨by omega, by omega, .inr (by omega)⟩
  have B5 := (hgrow.block _ (bk_lt (bk_alloc hob.own O)) (fun e => n2 e.symm)).trans (bk_alloc hob.own O)
  have B8 := (hc.block _ (bk_lt (bk_pur (bk_set B5 5 v5) h7)) (by simpa using n1)).trans (bk_pur (bk_set B5 5 v5) h7)
  refine h.props hp hx (w2 := w8) (v' := v5) (ks := x.keys ++ [key]) (f := upd x.props key (some v)) ?_ B8 ?_ ?_ (fun b hb => (hg5 b hb).2.2)
  · refine (Chg.pur ((Pur.refl w4).alloc O) _).trans (((Chg.grown hgrow).sub fun b hb => ?_).trans (((Chg.set w5 ⟨p.o, 5, none⟩ v5).sub fun b hb => ?_).trans ((Chg.pur h7 _).trans (hc.sub fun b hb => ?_))))
    · exact List.mem_cons_of_mem _ (List.mem_cons_of_mem _ hb)
    · simp at hb; simp [hb]
    · simp at hb; simp [hb]
  · have hl : (x.keys ++ [key]).length = x.keys.length + 1 := by simp
    have hk : keyVs (x.keys ++ [key]) = keyVs x.keys ++ [.string ⟨key.toArray⟩] := by simp [keyVs]
    rw [hl, hk]
    refine World.ownsRow_same hown fun g hg => ?_
    have hlg := (hown.lt g hg).2
    have e1 : (w5.setCell ⟨p.o, 5, none⟩ v5).heap[g]? = w5.heap[g]? := RowKit.Below.heap_setCell _ _ _ _ (hg5 g hg).1
    have hlg' : g < (w5.setCell ⟨p.o, 5, none⟩ v5).heap.size := by simpa [World.setCell] using hlg
    exact (hc.block g (Nat.lt_of_lt_of_le hlg' h7.size) (by simpa using (hg5 g hg).2.1)).trans ((h7.block g hlg').trans e1)
  · have hl : (x.keys ++ [key]).length = x.keys.length + 1 := by simp
    rw [hl]
    exact MapAt.put hD hf h8 (by rw [hbo]; simp)
set_option maxRecDepth 100000 in
set_option maxHeartbeats 8000000 in
theorem put_prop_new (s : Hs) (i : Int) (x : Ob) (key : List UInt8) (v : Va) (w : World) (h : HpAt w s) {G : Nat} (hok : s.d.Ok G) (hx : s.d.obj i = some x) (hvw : v.wf) (hr : v.right s.d.xs.length = true) (hkl : key.length ≤ 1000000) (hkn : ¬ (x.kind = 2 ∧ key = lenKey)) (hki : (if x.kind = 2 then index key else none) = none) (hbo : (x.props key).isSome = false) (hlt : ¬ s.d.left < 1) :
    Calls Tryd.prog 16 #[.pointer (some ⟨s.h, 0, none⟩), .int .i64 i, .string ⟨key.toArray⟩, v.v] w fun e w' => e = .returned (.int .i64 0) ∧ Left w s w' (s.d.turn i (x.prop key v) (s.d.left - 1)) := by
  obtain ⟨k, n, t, r⟩ := v
  have p1 : Pur w (w.alloc (.cells #[.int .i64 k, .float .f64 n, .string ⟨t.toArray⟩, .int .i64 r] 33)) := (Pur.refl w).alloc _
  obtain ⟨p, hp, hxx, hat, hob⟩ := h.pl hx
  have AT := at_any s i _ (h.pur p1)
  rw [hat] at AT
  have RT := right_any s ⟨k, n, t, r⟩ _ (h.pur p1) hvw.1 hvw.2
  rw [show s.ps.length = s.d.xs.length from h.len.symm, hr] at RT
  have V2 : ∀ w2, Pur (w.alloc (.cells #[.int .i64 k, .float .f64 n, .string ⟨t.toArray⟩, .int .i64 r] 33)) w2 → w2.heap[w.heap.size]? = some (.cells #[.int .i64 k, .float .f64 n, .string ⟨t.toArray⟩, .int .i64 r] 33 (0, 0)) := fun w2 h2 => bk_pur (bk_new _ _) h2
  have O2 : ∀ w2, Pur (w.alloc (.cells #[.int .i64 k, .float .f64 n, .string ⟨t.toArray⟩, .int .i64 r] 33)) w2 → HpAt w2 s ∧ ObIn w2 p x := fun w2 h2 => ⟨h.pur (p1.trans h2), (h.pur (p1.trans h2)).each _ _ _ hp hxx⟩
  have IX := fun w => index_any key w (by omega)
  have hkey := key_lit (k := key) (by unfold maxLen; omega)
  have hz := RV_v Va.zero
  obtain ⟨y, hy⟩ : ∃ y, (x.props key).getD Va.zero = y := ⟨_, rfl⟩
  have M2 : ∀ w2, Pur (w.alloc (.cells #[.int .i64 k, .float .f64 n, .string ⟨t.toArray⟩, .int .i64 r] 33)) w2 → ∃ D, w2.ownsMap Tryd.prog 9 RV p.m x.keys.length D ∧ Hid (∀ k, Maps.has D (.string k) = (x.props k).isSome ∧ ∀ z, D.atKey (.string k) z = ((x.props k).map DataW.held).getD z) ∧ D.atKey (.string key) (.held Va.zero) = .held y ∧ Maps.has D (.string key) = false := fun w2 h2 => by
    obtain ⟨D, hD, hf⟩ := (O2 w2 h2).2.props
    refine ⟨D, hD, Lib.hid hf, ?_, (hf key).1.trans hbo⟩
    rw [(hf key).2, ← hy]
    cases x.props key <;> rfl
  obtain ⟨yk, yn, yt, yr⟩ := y
  have ways : (x.kind = 2 ∧ (key == lenKey) = false ∧ ix (index key) = (0, false)) ∨ (decide (x.kind = 2) = false ∧ ix (index key) = (0, false)) ∨ (decide (x.kind = 2) = false ∧ ∃ q : Int, ix (index key) = (q, true)) := by
    by_cases h2 : x.kind = 2
    · rw [if_pos h2] at hki
      exact .inl ⟨h2, eqkey_no (fun e => hkn ⟨h2, e⟩), by rw [hki]; rfl⟩
    · right
      have hd : decide (x.kind = 2) = false := decide_eq_false h2
      rcases index key with _ | q
      · exact .inl ⟨hd, rfl⟩
      · exact .inr ⟨hd, q, rfl⟩
  have hkl2 := (hok.mem (Hd.obj_mem hx).1).1
  have hb := hok.bounds
  have hltI : ¬ s.left < 1 := hlt
  simp only [Hs.d] at hb
  have hltD : decide (s.left < 1) = false := decide_eq_false hltI
  have wr : IntKind.i64.wrap (s.left - 1) = s.left - 1 := IntWalk.i64_in _ (by omega)
  obtain ⟨i0, hi0, hzz⟩ := Option.map_eq_some_iff.1 str_info
  simp only [Prod.mk.injEq] at hzz
  obtain ⟨hz0, hz1, hz2⟩ := hzz
  obtain ⟨z0, hz0, hzs⟩ := Option.map_eq_some_iff.1 hz0
  have hxp : x.prop key ⟨k, n, t, r⟩ = { x with keys := x.keys ++ [key], props := upd x.props key (some ⟨k, n, t, r⟩) } := by unfold Ob.prop; rw [hbo]; rfl
  rw [hxp]
  have hval := RV_v ⟨k, n, t, r⟩
  have hnd := pl_nodup h hp
  have hhd := pl_head h hp
  have hlt0 := hob.lt
  have hsl := bk_lt h.own
  unfold Pl.blocks at hnd hhd hlt0
  simp only [List.nodup_cons, List.mem_cons, List.mem_append, not_or, Option.mem_toList] at hnd hhd
  have L4 : ∀ w3, Pur w w3 → HpAt (w3.setCell ⟨s.h, 1, none⟩ (.int .i64 (s.left - 1))) (s.less (s.left - 1)) ∧ Step w s (w3.setCell ⟨s.h, 1, none⟩ (.int .i64 (s.left - 1))) (s.less (s.left - 1)) := fun w3 h3 =>
    ⟨((h.pur h3).less _).1, (Step.pur h3).trans ((h.pur h3).less _).2⟩
  have hpl : (s.less (s.left - 1)).ps[i.toNat]? = some p := hp
  have hxl : (s.less (s.left - 1)).xs[i.toNat]? = some x := hxx
  have E4 : ∀ w4, HpAt w4 (s.less (s.left - 1)) → ObIn w4 p x := fun w4 h4 => h4.each _ _ _ hpl hxl
  have hfin : ∀ (w4 w5 w7 w8 : World) (v5 : Value) (O : Obj) (D : DataW Va), HpAt w4 (s.less (s.left - 1)) → Step w s w4 (s.less (s.left - 1)) → (w4.alloc O).grownBy w5 p.kv.ownBlock → w5.ownsRow 0 9 1 v5 (x.keys.length + 1) (keyVs x.keys ++ [.string ⟨key.toArray⟩]) → (v5.ownBlock = p.kv.ownBlock ∨ v5.ownBlock = some (w4.alloc O).heap.size) → Pur (w5.setCell ⟨p.o, 5, none⟩ v5) w7 → w7.ownsMap Tryd.prog 9 RV p.m x.keys.length D → Hid (∀ k, Maps.has D (.string k) = (x.props k).isSome ∧ ∀ z, D.atKey (.string k) z = ((x.props k).map DataW.held).getD z) → w8.ownsMap Tryd.prog 9 RV p.m (x.keys.length + 1) (D.put (.string key) (.held ⟨k, n, t, r⟩)) → w7.mapTurned w8 p.m → Left w s w8 (s.d.turn i { x with keys := x.keys ++ [key], props := upd x.props key (some ⟨k, n, t, r⟩) } (s.d.left - 1)) := fun w4 w5 w7 w8 v5 O D h4 k4 hg hv hid h7 hD hf h8 ht => by
    have := prop_added h4 hpl hxl hg hv hid h7 hD hf.out h8 ht hbo
    exact ⟨_, this.1, k4.trans this.2, rfl, fun j => (turn_at (s.less (s.left - 1)) i.toNat p ⟨p.o, p.m, v5, p.iv⟩ _ hpl rfl j).trans (less_at s _ j)⟩
  have K6 : ∀ (w3 w5 : World) (v5 : Value) (O : Obj) (b : Nat), b < w3.heap.size → b ≠ s.h → b ≠ p.o → p.kv.ownBlock ≠ some b → ((w3.setCell ⟨s.h, 1, none⟩ (.int .i64 (s.left - 1))).alloc O).grownBy w5 p.kv.ownBlock → (w5.setCell ⟨p.o, 5, none⟩ v5).heap[b]? = w3.heap[b]? := fun w3 w5 v5 O b h1 h2 h3 h4 hg => by
    have hx3 : w3.heap[b]? = some w3.heap[b] := Array.getElem?_eq_getElem h1
    have e1 := bk_alloc (bk_other hx3 (a := ⟨s.h, 1, none⟩) h2 (.int .i64 (s.left - 1))) O
    have e2 := (hg.block b (bk_lt e1) (fun e => h4 e.symm)).trans e1
    rw [hx3]
    exact bk_other e2 (a := ⟨p.o, 5, none⟩) h3 v5
  have hnm : x.keys.length < maxLen := by unfold maxLen; omega
  have mh : p.m ≠ s.h := fun e => hhd.2.1 e.symm
  have mo : p.m ≠ p.o := fun e => hnd.1.1 e.symm
  have mk : p.kv.ownBlock ≠ some p.m := hnd.2.1.1
  have ok' : some p.o ≠ p.kv.ownBlock := fun e => hnd.1.2.1 e.symm
  have vh : w.heap.size ≠ s.h := by omega
  have vo : w.heap.size ≠ p.o := fun e => by have := hlt0 p.o (by simp); omega
  have vk : p.kv.ownBlock ≠ some w.heap.size := fun e => by have := hlt0 w.heap.size (by simp [e]); omega
  have honeK : ∀ u ∈ [Value.string ⟨key.toArray⟩], u.oneCell' = true := by intro u hu; obtain rfl := List.mem_singleton.1 hu; rfl
  have hc3 : x.keys.length + 1 ≤ maxLen := by unfold maxLen; omega
  have hc4 : (x.keys.length + 1) * 16 ≤ 140737488355328 := by omega
  simp only [Va.v, Va.cells] at *
  clear h hx hp hxx hat hr hok hvw hob hbo hy hkn hki hlt hxp hnd hhd hlt0 hpl hxl hsl
  rcases ways with ⟨hk, q1, hi⟩ | ⟨hk, hi⟩ | ⟨hk, q, hi⟩
  all_goals
    try rw [hi] at IX
    try (simp only [hi] at IX)
    try unfold lenKey at q1
    try have hk' := of_decide_eq_false hk
    go_enter Tryd.func16, Tryd.ntmps16
    go_wp2_with fail
    go_wp2_with fail
    refine (AT).mono ?_
    rintro e w2 ⟨rfl, rfl⟩
    go_wp2_with fail
    go_wp2_with fail
    refine (RT).mono ?_
    rintro e w2 ⟨rfl, h2⟩
    have ob := (O2 _ h2).2.own
    try rw [hk] at ob
    have q0 := bk_cell ob 0 _ rfl
    clear AT RT ob
    go_wp2_with fail
    refine (IX _).mono ?_
    rintro e w3 ⟨rfl, h3⟩
    have h23 := h2.trans h3
    have B := (O2 _ h23).2.own
    try rw [hk] at B
    have q0 := bk_cell B 0 _ rfl
    have q6 := bk_cell B 6 _ rfl
    have B4 := bk_alloc B (.cells #[.int .i64 yk, .float .f64 yn, .string ⟨yt.toArray⟩, .int .i64 yr] 33)
    have HB4 := bk_alloc (O2 _ h23).1.own (.cells #[.int .i64 yk, .float .f64 yn, .string ⟨yt.toArray⟩, .int .i64 yr] 33)
    have V4 := bk_alloc (V2 _ h23) (.cells #[.int .i64 yk, .float .f64 yn, .string ⟨yt.toArray⟩, .int .i64 yr] 33)
    obtain ⟨D, hD, hf, f3, f1⟩ := M2 _ h23
    have hD4 := hD.alloc (.cells #[.int .i64 yk, .float .f64 yn, .string ⟨yt.toArray⟩, .int .i64 yr] 33)
    clear IX V2 M2 O2 B
    go_wp2_with (at_lookup; refine wpList_lookup_own_ok _ rfl _ _ 76 rfl 9 33 va_law Tryd.underlying76 _ (zero_va _) (.held Va.zero) [] hz p.m _ D rfl hD _ _ rfl hkey ?_)
    intro v ps hv
    try rw [f3] at hv
    obtain rfl := RV_inv hv
    try rw [f1]
    simp only [Va.v, Va.cells]
    have p4 := (p1.trans h23).alloc (.cells #[.int .i64 yk, .float .f64 yn, .string ⟨yt.toArray⟩, .int .i64 yr] 33)
    have g1 := bk_cell HB4 1 _ rfl
    have f1' := bk_free HB4 1
    obtain ⟨H4, K4⟩ := L4 _ p4
    have ob4 := E4 _ H4
    have q5 := bk_cell ob4.own 5 _ rfl
    have R4 := ob4.keys.alloc (.cells #[.string ⟨key.toArray⟩] 9)
    have hid3 := Lib.hid (And.intro hkl2 (And.intro vh vo))
    clear L4 E4 B4 HB4 q6
    go_wp2_with (at_builtin; refine wpList_append_own_at _ rfl _ _ 41 rfl 0 9 i0 z0 1 16 Tryd.underlying41 hi0 hz0 hz1 hz2 hzs (by decide) _ _ _ rfl R4 ⟨_, 0, none⟩ 1 1 [.string ⟨key.toArray⟩] rfl rfl ?c1 ?c2 ?c3 ?c4 ?c5 ?_)
    case c1 =>
      intro j u hj
      have e := cell_one_new ((w3.alloc (.cells #[.int .i64 yk, .float .f64 yn, .string ⟨yt.toArray⟩, .int .i64 yr] 33)).setCell ⟨s.h, 1, none⟩ (.int .i64 (s.left - 1))) (.string ⟨key.toArray⟩) 9 j u hj
      simpa using e
    case c5 => exact Nat.zero_le _
    case c2 => exact honeK
    case c3 => exact hc3
    case c4 => exact hc4
    intro v5 w5 hown5 hgrow _ hid
    have B5 := (hgrow.block _ (bk_lt (bk_alloc ob4.own _)) ok').trans (bk_alloc ob4.own _)
    have f5 := bk_free B5 5
    have k5 := bk_cell B5 5 _ rfl
    have B6 := bk_set B5 5 v5
    have V6 := (K6 _ w5 v5 _ w.heap.size (bk_lt V4) vh vo vk hgrow).trans V4
    have D6 := World.ownsMap_same hD4 (K6 _ w5 v5 _ p.m hD4.lt mh mo mk hgrow)
    have HF := fun w7 w8 D => hfin _ w5 w7 w8 v5 _ D H4 K4 hgrow hown5 (by simpa using hid)
    obtain ⟨a5, c5, rfl⟩ := row_shape hown5
    have Z6 : ∀ z : PW (w5.setCell ⟨p.o, 5, none⟩ (.slice a5 (x.keys.length + 1) c5)), z.to.cell? ⟨p.o, 6, none⟩ = some (.map (some p.m)) := fun z => bk_cell (bk_pur B6 z.pur) 6 _ rfl
    have Z0 : ∀ z : PW (w5.setCell ⟨p.o, 5, none⟩ (.slice a5 (x.keys.length + 1) c5)), z.to.cell? ⟨w.heap.size, 0, none⟩ = some (.int .i64 k) := fun z => bk_cell (bk_pur V6 z.pur) 0 _ rfl
    have Z1 : ∀ z : PW (w5.setCell ⟨p.o, 5, none⟩ (.slice a5 (x.keys.length + 1) c5)), z.to.cell? ⟨w.heap.size, 1, none⟩ = some (.float .f64 n) := fun z => bk_cell (bk_pur V6 z.pur) 1 _ rfl
    have Z2 : ∀ z : PW (w5.setCell ⟨p.o, 5, none⟩ (.slice a5 (x.keys.length + 1) c5)), z.to.cell? ⟨w.heap.size, 2, none⟩ = some (.string ⟨t.toArray⟩) := fun z => bk_cell (bk_pur V6 z.pur) 2 _ rfl
    have Z3 : ∀ z : PW (w5.setCell ⟨p.o, 5, none⟩ (.slice a5 (x.keys.length + 1) c5)), z.to.cell? ⟨w.heap.size, 3, none⟩ = some (.int .i64 r) := fun z => bk_cell (bk_pur V6 z.pur) 3 _ rfl
    clear hown5 hgrow hid hfin K6 H4 K4 R4 B5 B6 V6 ob4 V4 hD hD4 hz0 hz1 hz2 hzs hi0 p4 q5 g1 f1'
    go_wp2_with fail
    refine wp_region_pur_tail 6 (by kernel_rfl) (by kernel_rfl) ?_
    simp only [List.take_succ_cons, List.take_zero, List.drop_succ_cons, List.drop_zero]
    repeat (go_big_quiet_step (fail))
    refine wpQuiet_nil ?_
    intro w7 h7
    have hD7 := World.ownsMap_same D6 (h7.block _ D6.lt)
    refine wpList_mapUpdate_in _ rfl _ _ _ 76 rfl 9 33 va_law Tryd.underlying76 RV p.m _ D rfl hD7 hnm _ _ _ rfl rfl hkey _ _ hval ?_
    intro w8 hown8 ht8
    have HG := HF w7 w8 D h7 hD7 hf hown8 ht8
    clear HF hD7 hown8 ht8 Z0 Z1 Z2 Z3 Z6 hf D6
    go_wp2
    go_ret
    exact ⟨rfl, HG⟩
end Go.Proofs.YtfophnmnehpenaaDoor
namespace Go.Proofs.YtfophnmnehpenaaDoor
open Go Go.RowKit
set_option linter.all false
theorem index_most {l : List UInt8} {n : Nat} (h : index l = some n) : n ≤ 2147483647 := by
  unfold index at h
  split at h
  · cases h
  · unfold most31 at h
    rcases hx : idxL (unitsOf l) 0 false with _ | k
    · rw [hx] at h; cases h
    · rw [hx] at h
      simp only [Option.bind_some] at h
      split at h
      · cases h
      · cases h; omega
theorem put_any (s : Hs) (i : Int) (key : List UInt8) (v : Va) (w : World) (h : HpAt w s) {G : Nat} (hok : s.d.Ok G) (hvw : v.wf) (hkl : key.length ≤ 1000000) :
    Calls Tryd.prog 16 #[.pointer (some ⟨s.h, 0, none⟩), .int .i64 i, .string ⟨key.toArray⟩, v.v] w fun e w' => e = .returned (.int .i64 (s.d.put i key v).1) ∧ Left w s w' (s.d.put i key v).2 := by
  unfold Hd.put
  rcases hx : s.d.obj i with _ | x
  · exact put_none s i key v w h hx
  · simp only
    rcases hr : v.right s.d.xs.length with _ | _
    · rw [if_pos rfl]
      exact put_wrong s i x key v w h hx hvw hr
    · rw [if_neg (by simp)]
      by_cases hl : x.kind = 2 ∧ key = lenKey
      · rw [if_pos hl]
        rcases hn : lenOf v with _ | m
        · exact put_len_bad s i x key v w h hok hx hvw hr hl.1 hl.2 hn
        · exact put_len s i x key v w h hok hx hvw hr hl.1 hl.2 m hn
      · rw [if_neg hl]
        rcases hi : (if x.kind = 2 then index key else none) with _ | m
        · simp only
          rcases hb : (x.props key).isSome with _ | _
          · rw [if_neg (by simp)]
            by_cases hlt : s.d.left < 1
            · rw [if_pos hlt]
              exact put_prop_full s i x key v w h hok hx hvw hr hkl hl hi hb hlt
            · rw [if_neg hlt]
              exact put_prop_new s i x key v w h hok hx hvw hr hkl hl hi hb hlt
          · rw [if_pos rfl]
            exact put_prop_old s i x key v w h hok hx hvw hr hkl hl hi hb
        · have hk : x.kind = 2 := Classical.byContradiction fun hk => by rw [if_neg hk] at hi; cases hi
          rw [if_pos hk] at hi
          have hne : ¬ key = lenKey := fun e => hl ⟨hk, e⟩
          have hm2 := index_most hi
          simp only
          by_cases hm : x.items.length ≤ m
          · rw [if_pos hm]
            by_cases hlt : s.d.left < (m : Int) + 1 - x.items.length
            · rw [if_pos hlt]
              exact put_full s i x key v w h hok hx hvw hr hk hkl hne m hi hm hm2 hlt
            · rw [if_neg hlt]
              exact put_grow s i x key v w h hok hx hvw hr hk hkl hne m hi hm hm2 hlt
          · rw [if_neg hm]
            exact put_item s i x key v w h hok hx hvw hr hk hkl hne m hi (by omega)
/-- the contract's answer, given beforehand -/
theorem put_at (s : Hs) (i : Int) (key : List UInt8) (v : Va) (w : World) (h : HpAt w s) {G : Nat} (hok : s.d.Ok G) (hvw : v.wf) (hkl : key.length ≤ 1000000) {R : Int × Hd} (hR : s.d.put i key v = R) :
    Calls Tryd.prog 16 #[.pointer (some ⟨s.h, 0, none⟩), .int .i64 i, .string ⟨key.toArray⟩, v.v] w fun e w' => e = .returned (.int .i64 R.1) ∧ ∃ s', HpAt w' s' ∧ Step w s w' s' ∧ s'.d = R.2 := by
  refine (put_any s i key v w h hok hvw hkl).mono ?_
  rintro e w' ⟨rfl, s', h1, h2, h3, -⟩
  rw [hR] at h3 ⊢
  exact ⟨rfl, s', h1, h2, h3⟩
end Go.Proofs.YtfophnmnehpenaaDoor
