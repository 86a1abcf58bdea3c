/- Layer 8: an object's properties and items turned; (*Heap).Put where nothing is put. Layer 8: (*Heap).Put: an array's length. Layer 8: an item stored. Layer 8: (*Heap).Put: an array's item. Layer 8: (*Heap).Put: an item beyond an array's end. -/
import Derived.Test.YtfophnmnehpenaaDoorHA5
import Derived.Test.YtfophnmnehpenaaDoorHA6
import Derived.Test.YtfophnmnehpenaaDoorHA3
import Derived.Test.YtfophnmnehpenaaDoorHA4
import Derived.Laws.OwnMore
namespace Go.Proofs.YtfophnmnehpenaaDoor
open Go Go.RowKit
set_option linter.all false
theorem Left.after {w w3 w' : World} {s : Hs} {d : Hd} (hp : Pur w w3) (h : Left w3 s w' d) : Left w s w' d := by
  obtain ⟨s', h1, h2, h3⟩ := h
  exact ⟨s', h1, (Step.pur hp).trans h2, h3⟩
theorem MapAt.put {w w' : World} {m n n' : Nat} {f : List UInt8 → Option Va} {D : DataW Va} {k : List UInt8} {x : Va} (hD : w.ownsMap Tryd.prog 9 RV m n D)
    (hf : ∀ k, Maps.has D (.string k) = (f k).isSome ∧ ∀ z, D.atKey (.string k) z = ((f k).map DataW.held).getD z)
    (h' : w'.ownsMap Tryd.prog 9 RV m (n + 1) (D.put (.string k) (.held x))) (hn : n' = if (f k).isSome = true then n else n + 1) : MapAt w' m n' (upd f k (some x)) := by
  have hs := hD.size_le
  have ht : w'.ownsMap Tryd.prog 9 RV m n' (D.put (.string k) (.held x)) := by
    refine (World.ownsMap_tight h').mono ?_
    rw [Maps.size_put (hD.tidy va_law), (hf k).1, hn]
    split <;> omega
  refine ⟨_, ht, fun k' => ?_⟩
  unfold upd
  by_cases hk : k' = k
  · subst hk
    rw [if_pos rfl]
    exact ⟨Maps.has_put_same hD.isMap (show WideAt.IsKeyLit (.string k') from trivial) _, fun z => Maps.atKey_put_same hD.isMap (show WideAt.IsKeyLit (.string k') from trivial) _ z⟩
  · rw [if_neg hk]
    have hne : Lit.string k' ≠ Lit.string k := fun e => hk (by injection e)
    exact ⟨(Maps.has_put_other hne _).trans (hf k').1, fun z => (Maps.atKey_put_other hne _ z).trans ((hf k').2 z)⟩
/-- the properties turned: the map, and the keys' slice -/
theorem HpAt.props {w w2 : World} {s : Hs} (h : HpAt w s) {i : Nat} {p : Pl} {x : Ob} (hp : s.ps[i]? = some p) (hx : s.xs[i]? = some x) {v' : Value} {ks : List (List UInt8)} {f : List UInt8 → Option Va}
    (hc : Chg (p.o :: p.m :: p.kv.ownBlock.toList) w w2)
    (ho : w2.heap[p.o]? = some (.cells #[.int .i64 x.kind, .int .i64 x.proto, .int .i64 x.a, .int .i64 x.b, .int .i64 x.scope, v', .map (some p.m), p.iv] 78 (0, 0)))
    (hv : w2.ownsRow 0 9 1 v' ks.length (keyVs ks)) (hm : MapAt w2 p.m ks.length f) (hid : ∀ b, v'.ownBlock = some b → p.kv.ownBlock = some b ∨ w.heap.size ≤ b) :
    HpAt w2 (s.turn i ⟨p.o, p.m, v', p.iv⟩ { x with keys := ks, props := f }) ∧ Step w s w2 (s.turn i ⟨p.o, p.m, v', p.iv⟩ { x with keys := ks, props := f }) := by
  have hob := h.each i p x hp hx
  have hnd := pl_nodup h hp
  have hlt := hob.lt
  unfold Pl.blocks at hnd
  simp only [List.nodup_cons, List.mem_cons, List.mem_append, not_or, Option.mem_toList] at hnd
  obtain ⟨⟨n1, n2, n3⟩, ⟨n4, n5⟩, n6⟩ := hnd
  rw [List.nodup_append] at n6
  obtain ⟨n7, n8, n9⟩ := n6
  have ii : ∀ g, p.iv.ownBlock = some g → w2.heap[g]? = w.heap[g]? := fun g hg => hc.block g (hlt g (by simp [Pl.blocks, hg])) (by
    simp only [List.mem_cons, Option.mem_toList, not_or]
    exact ⟨fun e => n3 (e ▸ hg), fun e => n5 (e ▸ hg), fun e => n9 g (by simpa using e) g (by simp [hg]) rfl⟩)
  refine h.turn hp hx (hc.sub fun b hb => ?_) ⟨ho, hv, hm, World.ownsRow_same hob.items ii⟩ rfl ?_ ?_
  · simp only [Pl.blocks, List.mem_cons, List.mem_append] at hb ⊢
    rcases hb with h | h | h
    · exact .inl h
    · exact .inr (.inl h)
    · exact .inr (.inr (.inl h))
  · have f1 : ∀ b, v'.ownBlock = some b → b ≠ p.o ∧ b ≠ p.m ∧ p.iv.ownBlock ≠ some b := fun b hb => by
      rcases hid b hb with e | e
      · exact ⟨fun h => n2 (h ▸ e), fun h => n4 (h ▸ e), fun h => n9 b (by simp [e]) b (by simp [h]) rfl⟩
      · refine ⟨fun h => ?_, fun h => ?_, fun h => ?_⟩
        · have := hlt p.o (by simp [Pl.blocks]); omega
        · have := hlt p.m (by simp [Pl.blocks]); omega
        · have := hlt b (by simp [Pl.blocks, h]); omega
    unfold Pl.blocks
    simp only [List.nodup_cons, List.mem_cons, List.mem_append, not_or, Option.mem_toList, List.nodup_append]
    refine ⟨⟨n1, fun e => (f1 _ e).1 rfl, n3⟩, ⟨fun e => (f1 _ e).2.1 rfl, n5⟩, by cases v'.ownBlock <;> simp, n8, fun a ha b hb e => (f1 a ha).2.2 (by rw [e]; exact hb)⟩
  · intro b hb
    simp only [Pl.blocks, List.mem_cons, List.mem_append, Option.mem_toList] at hb ⊢
    rcases hb with rfl | rfl | hb | hb
    · exact .inl (.inl rfl)
    · exact .inl (.inr (.inl rfl))
    · rcases hid b hb with e | e
      · exact .inl (.inr (.inr (.inl e)))
      · exact .inr e
    · exact .inl (.inr (.inr (.inr hb)))
set_option maxRecDepth 100000 in
set_option maxHeartbeats 4000000 in
theorem put_none (s : Hs) (i : Int) (key : List UInt8) (v : Va) (w : World) (h : HpAt w s) (hx : s.d.obj i = none) :
    Calls Tryd.prog 16 #[.pointer (some ⟨s.h, 0, none⟩), .int .i64 i, .string ⟨key.toArray⟩, v.v] w fun e w' => e = .returned (.int .i64 3) ∧ Left w s w' s.d := by
  obtain ⟨k, n, t, r⟩ := v
  have p1 : Pur w (w.alloc (.cells #[.int .i64 k, .float .f64 n, .string ⟨t.toArray⟩, .int .i64 r] 33)) := (Pur.refl w).alloc _
  have AT := at_any s i _ (h.pur p1)
  rw [(at_none h i).2 hx] at AT
  have hfin : ∀ w', Pur w w' → Left w s w' s.d := fun w' hpp => ⟨s, h.pur hpp, Step.pur hpp, rfl, fun _ => rfl⟩
  simp only [Va.v, Va.cells]
  clear h hx
  go_enter Tryd.func16, Tryd.ntmps16
  go_wp2_with fail
  go_wp2_with fail
  refine (AT).mono ?_
  rintro e w2 ⟨rfl, rfl⟩
  go_wp2
  go_ret
  exact ⟨rfl, hfin _ p1⟩
set_option maxRecDepth 100000 in
set_option maxHeartbeats 4000000 in
theorem put_wrong (s : Hs) (i : Int) (x : Ob) (key : List UInt8) (v : Va) (w : World) (h : HpAt w s) (hx : s.d.obj i = some x) (hvw : v.wf) (hr : v.right s.d.xs.length = false) :
    Calls Tryd.prog 16 #[.pointer (some ⟨s.h, 0, none⟩), .int .i64 i, .string ⟨key.toArray⟩, v.v] w fun e w' => e = .returned (.int .i64 1) ∧ Left w s w' s.d := by
  obtain ⟨k, n, t, r⟩ := v
  have p1 : Pur w (w.alloc (.cells #[.int .i64 k, .float .f64 n, .string ⟨t.toArray⟩, .int .i64 r] 33)) := (Pur.refl w).alloc _
  obtain ⟨p, hp, hxx, hat, hob⟩ := h.pl hx
  have AT := at_any s i _ (h.pur p1)
  rw [hat] at AT
  have RT := right_any s ⟨k, n, t, r⟩ _ (h.pur p1) hvw.1 hvw.2
  rw [show s.ps.length = s.d.xs.length from h.len.symm, hr] at RT
  have hfin : ∀ w', Pur w w' → Left w s w' s.d := fun w' hpp => ⟨s, h.pur hpp, Step.pur hpp, rfl, fun _ => rfl⟩
  simp only [Va.v, Va.cells] at *
  clear h hx hp hxx hat hob hr
  go_enter Tryd.func16, Tryd.ntmps16
  go_wp2_with fail
  go_wp2_with fail
  refine (AT).mono ?_
  rintro e w2 ⟨rfl, rfl⟩
  go_wp2_with fail
  go_wp2_with fail
  refine (RT).mono ?_
  rintro e w3 ⟨rfl, h3⟩
  go_wp2
  go_ret
  exact ⟨rfl, hfin _ (p1.trans h3)⟩
end Go.Proofs.YtfophnmnehpenaaDoor
namespace Go.Proofs.YtfophnmnehpenaaDoor
open Go Go.RowKit
set_option linter.all false
set_option maxRecDepth 100000 in
set_option maxHeartbeats 8000000 in
theorem put_len_bad (s : Hs) (i : Int) (x : Ob) (key : List UInt8) (v : Va) (w : World) (h : HpAt w s) {G : Nat} (hok : s.d.Ok G) (hx : s.d.obj i = some x) (hvw : v.wf) (hr : v.right s.d.xs.length = true) (hk : x.kind = 2) (hkl : key = lenKey) (hl : lenOf v = none) :
    Calls Tryd.prog 16 #[.pointer (some ⟨s.h, 0, none⟩), .int .i64 i, .string ⟨key.toArray⟩, v.v] w fun e w' => e = .returned (.int .i64 1) ∧ Left w s w' s.d := by
  obtain ⟨k, n, t, r⟩ := v
  have p1 : Pur w (w.alloc (.cells #[.int .i64 k, .float .f64 n, .string ⟨t.toArray⟩, .int .i64 r] 33)) := (Pur.refl w).alloc _
  obtain ⟨p, hp, hxx, hat, hob⟩ := h.pl hx
  have AT := at_any s i _ (h.pur p1)
  rw [hat] at AT
  have RT := right_any s ⟨k, n, t, r⟩ _ (h.pur p1) hvw.1 hvw.2
  rw [show s.ps.length = s.d.xs.length from h.len.symm, hr] at RT
  have V2 : ∀ w2, Pur (w.alloc (.cells #[.int .i64 k, .float .f64 n, .string ⟨t.toArray⟩, .int .i64 r] 33)) w2 → w2.heap[w.heap.size]? = some (.cells #[.int .i64 k, .float .f64 n, .string ⟨t.toArray⟩, .int .i64 r] 33 (0, 0)) := fun w2 h2 => bk_pur (bk_new _ _) h2
  have O2 : ∀ w2, Pur (w.alloc (.cells #[.int .i64 k, .float .f64 n, .string ⟨t.toArray⟩, .int .i64 r] 33)) w2 → HpAt w2 s ∧ ObIn w2 p x := fun w2 h2 => ⟨h.pur (p1.trans h2), (h.pur (p1.trans h2)).each _ _ _ hp hxx⟩
  have hfin : ∀ w', Pur w w' → Left w s w' s.d := fun w' hpp => ⟨s, h.pur hpp, Step.pur hpp, rfl, fun _ => rfl⟩
  have WH := fun w => whole_any n w
  have hl' := lenOf_none hl
  simp only at hl'
  obtain ⟨b1, e1⟩ : ∃ b1, decide (k = 3) = b1 := ⟨_, rfl⟩
  obtain ⟨b2, e2⟩ : ∃ b2, eqB (wholeB n) n = b2 := ⟨_, rfl⟩
  obtain ⟨b3, e3⟩ : ∃ b3, ltB n 0 = b3 := ⟨_, rfl⟩
  obtain ⟨b4, e4⟩ : ∃ b4, gtB n 4746794007244308480 = b4 := ⟨_, rfl⟩
  have u2 : (FloatKind.f64.format.order (wholeB n) n != some Ordering.eq) = !b2 := congrArg Bool.not e2
  have u3 : (FloatKind.f64.format.order n 0 == some Ordering.lt) = b3 := e3
  have u4 : (FloatKind.f64.format.order n 4746794007244308480 == some Ordering.gt) = b4 := e4
  have hall : b1 = false ∨ b2 = false ∨ b3 = true ∨ b4 = true := by
    rcases hl' with h1 | h1 | h1 | h1
    · exact .inl (by rw [← e1]; exact decide_eq_false h1)
    · exact .inr (.inl (e2.symm.trans h1))
    · exact .inr (.inr (.inl (e3.symm.trans h1)))
    · exact .inr (.inr (.inr (e4.symm.trans h1)))
  simp only [Va.v, Va.cells] at *
  unfold lenKey at hkl
  subst hkl
  clear h hx hp hxx hat hob hr hl hl' hok e2 e3 e4 hvw
  rcases b1 with _ | _ <;> rcases b2 with _ | _ <;> rcases b3 with _ | _ <;> rcases b4 with _ | _ <;> first | (exfalso; revert hall; decide) | skip
  all_goals
    try (have k3 := of_decide_eq_true e1; subst k3)
    try (have n1 : ¬ k = 3 := of_decide_eq_false e1; have n2 : (k != 3) = true := bne_iff_ne.2 n1; have n3 : decide (¬ k = 3) = true := decide_eq_true n1)
    clear hall
    simp only [Bool.not_false, Bool.not_true] at u2
    go_enter Tryd.func16, Tryd.ntmps16
    go_wp2_with fail
    go_wp2_with fail
    refine (AT).mono ?_
    rintro e w2 ⟨rfl, rfl⟩
    go_wp2_with fail
    go_wp2_with fail
    refine (RT).mono ?_
    rintro e w2 ⟨rfl, h2⟩
    have ob := (O2 _ h2).2.own
    rw [hk] at ob
    have q0 := bk_cell ob 0 _ rfl
    have hV := V2 _ h2
    have Z0 : ∀ y : PW w2, y.to.cell? ⟨w.heap.size, 0, none⟩ = some (.int .i64 _) := fun y => bk_cell (bk_pur hV y.pur) 0 _ rfl
    have Z1 : ∀ y : PW w2, y.to.cell? ⟨w.heap.size, 1, none⟩ = some (.float .f64 n) := fun y => bk_cell (bk_pur hV y.pur) 1 _ rfl
    clear O2 V2 ob hV AT RT
    go_wp2_with fail
    refine wp_region_pur (by kernel_rfl) (by kernel_rfl) ?_
    repeat (go_big_quiet_step (((go_at_call 41; with_reducible exact quiet_eq (WH _)))))
    refine wpQuiet_nil ?_
    intro w3 h3
    go_wp2
    go_ret
    exact ⟨rfl, hfin _ ((p1.trans h2).trans h3)⟩
set_option maxRecDepth 100000 in
set_option maxHeartbeats 8000000 in
theorem put_len (s : Hs) (i : Int) (x : Ob) (key : List UInt8) (v : Va) (w : World) (h : HpAt w s) {G : Nat} (hok : s.d.Ok G) (hx : s.d.obj i = some x) (hvw : v.wf) (hr : v.right s.d.xs.length = true) (hk : x.kind = 2) (hkl : key = lenKey) (m : Nat) (hl : lenOf v = some m) :
    Calls Tryd.prog 16 #[.pointer (some ⟨s.h, 0, none⟩), .int .i64 i, .string ⟨key.toArray⟩, v.v] w fun e w' => e = .returned (.int .i64 (s.d.resize i x m).1) ∧ Left w s w' (s.d.resize i x m).2 := by
  obtain ⟨k, n, t, r⟩ := v
  have p1 : Pur w (w.alloc (.cells #[.int .i64 k, .float .f64 n, .string ⟨t.toArray⟩, .int .i64 r] 33)) := (Pur.refl w).alloc _
  obtain ⟨p, hp, hxx, hat, hob⟩ := h.pl hx
  have AT := at_any s i _ (h.pur p1)
  rw [hat] at AT
  have RT := right_any s ⟨k, n, t, r⟩ _ (h.pur p1) hvw.1 hvw.2
  rw [show s.ps.length = s.d.xs.length from h.len.symm, hr] at RT
  have V2 : ∀ w2, Pur (w.alloc (.cells #[.int .i64 k, .float .f64 n, .string ⟨t.toArray⟩, .int .i64 r] 33)) w2 → w2.heap[w.heap.size]? = some (.cells #[.int .i64 k, .float .f64 n, .string ⟨t.toArray⟩, .int .i64 r] 33 (0, 0)) := fun w2 h2 => bk_pur (bk_new _ _) h2
  have O2 : ∀ w2, Pur (w.alloc (.cells #[.int .i64 k, .float .f64 n, .string ⟨t.toArray⟩, .int .i64 r] 33)) w2 → HpAt w2 s ∧ ObIn w2 p x := fun w2 h2 => ⟨h.pur (p1.trans h2), (h.pur (p1.trans h2)).each _ _ _ hp hxx⟩
  have WH := fun w => whole_any n w
  obtain ⟨k3, e2, e3, e4, e5, hm⟩ := lenOf_some hl
  simp only at k3 e2 e3 e4 e5
  subst k3
  have u2 : (FloatKind.f64.format.order (wholeB n) n != some Ordering.eq) = false := congrArg Bool.not e2
  have u3 : (FloatKind.f64.format.order n 0 == some Ordering.lt) = false := e3
  have u4 : (FloatKind.f64.format.order n 4746794007244308480 == some Ordering.gt) = false := e4
  have RS := fun w3 (hp3 : Pur w w3) => resize_any s i x p.o m w3 (h.pur hp3) hx hat (by omega) hok
  have lo : IntKind.i64.min ≤ (m : Int) ∧ (m : Int) ≤ IntKind.i64.max := by simp [IntKind.min, IntKind.max, IntKind.signed, IntKind.bits]; omega
  have cv : ∀ w : World, (Conv.floatToInt .f64 n .i64).run Tryd.prog w = .ok (.int .i64 m) w := fun w => by
    unfold Conv.floatToInt
    rw [e5]
    simp only [lo.1, lo.2, and_self, if_true]
    rfl
  have cv2 : ∀ w : World, (convert 31 3 (.float .f64 n)).run Tryd.prog w = .ok (.int .i64 m) w := fun w => (show _ = (Conv.floatToInt .f64 n .i64).run Tryd.prog w from rfl).trans (cv w)
  clear cv
  simp only [Va.v, Va.cells] at *
  unfold lenKey at hkl
  subst hkl
  generalize s.d.resize i x m = R at *
  clear h hx hp hxx hat hob hr hl hok e2 e3 e4 hvw e5 lo hm
  go_enter Tryd.func16, Tryd.ntmps16
  go_wp2_with fail
  go_wp2_with fail
  refine (AT).mono ?_
  rintro e w2 ⟨rfl, rfl⟩
  go_wp2_with fail
  go_wp2_with fail
  refine (RT).mono ?_
  rintro e w2 ⟨rfl, h2⟩
  have ob := (O2 _ h2).2.own
  rw [hk] at ob
  have q0 := bk_cell ob 0 _ rfl
  have hV := V2 _ h2
  have Z0 : ∀ y : PW w2, y.to.cell? ⟨w.heap.size, 0, none⟩ = some (.int .i64 3) := fun y => bk_cell (bk_pur hV y.pur) 0 _ rfl
  have Z1 : ∀ y : PW w2, y.to.cell? ⟨w.heap.size, 1, none⟩ = some (.float .f64 n) := fun y => bk_cell (bk_pur hV y.pur) 1 _ rfl
  clear O2 V2 ob AT RT
  go_wp2_with fail
  refine wp_region_pur (by kernel_rfl) (by kernel_rfl) ?_
  repeat (go_big_quiet_step (((go_at_call 41; with_reducible exact quiet_eq (WH _)))))
  refine wpQuiet_nil ?_
  intro w3 h3
  have z1 := bk_cell (bk_pur hV h3) 1 _ rfl
  have p3 := (p1.trans h2).trans h3
  have RS' := RS _ p3
  clear RS Z0 Z1 hV q0
  go_wp2_with fail
  refine RS'.mono ?_
  rintro e w4 ⟨rfl, hL⟩
  go_wp2
  go_ret
  exact ⟨rfl, hL.after p3⟩
end Go.Proofs.YtfophnmnehpenaaDoor
namespace Go.Proofs.YtfophnmnehpenaaDoor
open Go Go.RowKit
set_option linter.all false
theorem flat_set (x : Va) : ∀ (vs : List Va) (m : Nat), m < vs.length → ((((vs.flatMap Va.cells).set (m * 4) (.int .i64 x.kind)).set (m * 4 + 1) (.float .f64 x.num)).set (m * 4 + 2) (.string ⟨x.text.toArray⟩)).set (m * 4 + 3) (.int .i64 x.ref) = (vs.set m x).flatMap Va.cells
  | [], m, h => by simp at h
  | y :: r, 0, h => by simp [Va.cells]
  | y :: r, m + 1, h => by
    have ih := flat_set x r m (by simpa using h)
    rw [List.set_cons_succ, List.flatMap_cons, List.flatMap_cons, ← ih]
    have hl : y.cells.length = 4 := rfl
    have sa : ∀ (L : List Value) (j : Nat) (u : Value), (y.cells ++ L).set (4 + j) u = y.cells ++ L.set j u := fun L j u => by
      rw [List.set_append_right _ _ (by rw [hl]; omega), hl, Nat.add_sub_cancel_left]
    rw [show (m + 1) * 4 = 4 + m * 4 by omega, show 4 + m * 4 + 1 = 4 + (m * 4 + 1) by omega, show 4 + m * 4 + 2 = 4 + (m * 4 + 2) by omega, show 4 + m * 4 + 3 = 4 + (m * 4 + 3) by omega, sa, sa, sa, sa]
theorem own_has {w : World} {B : Nat} {e : TypeId} {g n cap : Nat} {xs : List Value} (h : w.ownsRow B e 4 (.slice (some ⟨g, 0, none⟩) n cap) n xs) (j : Nat) (hj : j < n * 4) : w.frozen? ⟨g, j, none⟩ = false ∧ ∃ u, w.cell? ⟨g, j, none⟩ = some u := by
  refine ⟨h.frozenAt j, ?_⟩
  rw [h.cellAt j hj]
  exact ⟨_, List.getElem?_eq_getElem (by rw [h.1]; exact hj)⟩
def put4 (w : World) (g m : Nat) (x : Va) : World := (((w.setCell ⟨g, m * 4, none⟩ (.int .i64 x.kind)).setCell ⟨g, m * 4 + 1, none⟩ (.float .f64 x.num)).setCell ⟨g, m * 4 + 2, none⟩ (.string ⟨x.text.toArray⟩)).setCell ⟨g, m * 4 + 3, none⟩ (.int .i64 x.ref)
theorem row_some {w : World} {B : Nat} {e : TypeId} {v : Value} {n : Nat} {xs : List Value} (h : w.ownsRow B e 4 v n xs) (hn : 0 < n) : ∃ g cap, v = .slice (some ⟨g, 0, none⟩) n cap := by
  rcases h.2 with ⟨rfl, h0⟩ | ⟨g, cap, cur, rfl, _⟩
  · omega
  · exact ⟨g, cap, rfl⟩
theorem item_store {w : World} {s : Hs} (h : HpAt w s) {i : Nat} {p : Pl} {x : Ob} (hp : s.ps[i]? = some p) (hx : s.xs[i]? = some x) {g cap m : Nat} (hiv : p.iv = .slice (some ⟨g, 0, none⟩) x.items.length cap) (hm : m < x.items.length) (v : Va) :
    (w.frozen? ⟨g, m * 4, none⟩ = false ∧ ∃ u, w.cell? ⟨g, m * 4, none⟩ = some u) ∧
    ((w.setCell ⟨g, m * 4, none⟩ (.int .i64 v.kind)).frozen? ⟨g, m * 4 + 1, none⟩ = false ∧ ∃ u, (w.setCell ⟨g, m * 4, none⟩ (.int .i64 v.kind)).cell? ⟨g, m * 4 + 1, none⟩ = some u) ∧
    (((w.setCell ⟨g, m * 4, none⟩ (.int .i64 v.kind)).setCell ⟨g, m * 4 + 1, none⟩ (.float .f64 v.num)).frozen? ⟨g, m * 4 + 2, none⟩ = false ∧ ∃ u, ((w.setCell ⟨g, m * 4, none⟩ (.int .i64 v.kind)).setCell ⟨g, m * 4 + 1, none⟩ (.float .f64 v.num)).cell? ⟨g, m * 4 + 2, none⟩ = some u) ∧
    ((((w.setCell ⟨g, m * 4, none⟩ (.int .i64 v.kind)).setCell ⟨g, m * 4 + 1, none⟩ (.float .f64 v.num)).setCell ⟨g, m * 4 + 2, none⟩ (.string ⟨v.text.toArray⟩)).frozen? ⟨g, m * 4 + 3, none⟩ = false ∧ ∃ u, (((w.setCell ⟨g, m * 4, none⟩ (.int .i64 v.kind)).setCell ⟨g, m * 4 + 1, none⟩ (.float .f64 v.num)).setCell ⟨g, m * 4 + 2, none⟩ (.string ⟨v.text.toArray⟩)).cell? ⟨g, m * 4 + 3, none⟩ = some u) ∧
    HpAt (put4 w g m v) (s.turn i p (x.item m v)) ∧ Step w s (put4 w g m v) (s.turn i p (x.item m v)) := by
  have hob := h.each i p x hp hx
  have R0 := hob.items
  rw [hiv] at R0
  obtain ⟨R1, G1⟩ := R0.stored (m * 4) (.int .i64 v.kind)
  obtain ⟨R2, G2⟩ := R1.stored (m * 4 + 1) (.float .f64 v.num)
  obtain ⟨R3, G3⟩ := R2.stored (m * 4 + 2) (.string ⟨v.text.toArray⟩)
  obtain ⟨R4, G4⟩ := R3.stored (m * 4 + 3) (.int .i64 v.ref)
  refine ⟨own_has R0 _ (by omega), own_has R1 _ (by omega), own_has R2 _ (by omega), own_has R3 _ (by omega), ?_⟩
  have G := G1.trans (G2.trans (G3.trans G4))
  have hnd := pl_nodup h hp
  unfold Pl.blocks at hnd
  have hne : some p.o ≠ some g := fun e => by
    rw [show p.iv.ownBlock = some g by rw [hiv]; rfl] at hnd
    simp only [Option.some.injEq] at e
    simp [e] at hnd
  have hl : (x.items.set m v).length = x.items.length := List.length_set
  rw [flat_set v x.items m hm] at R4
  have := h.items hp hx (w2 := put4 w g m v) (v' := p.iv) (l := x.items.set m v)
    ((Chg.grown G).sub (fun b hb => by rw [hiv]; exact List.mem_cons_of_mem _ hb)) ((G.block _ (bk_lt hob.own) hne).trans hob.own) (by rw [hl, hiv]; exact R4) (fun b hb => .inl hb)
  exact this
end Go.Proofs.YtfophnmnehpenaaDoor
namespace Go.Proofs.YtfophnmnehpenaaDoor
open Go Go.RowKit
set_option linter.all false
set_option maxRecDepth 100000 in
set_option maxHeartbeats 8000000 in
theorem put_item (s : Hs) (i : Int) (x : Ob) (key : List UInt8) (v : Va) (w : World) (h : HpAt w s) {G : Nat} (hok : s.d.Ok G) (hx : s.d.obj i = some x) (hvw : v.wf) (hr : v.right s.d.xs.length = true) (hk : x.kind = 2) (hkl : key.length ≤ 1000000) (hne : ¬ key = lenKey) (m : Nat) (hix : index key = some m) (hm : m < x.items.length) :
    Calls Tryd.prog 16 #[.pointer (some ⟨s.h, 0, none⟩), .int .i64 i, .string ⟨key.toArray⟩, v.v] w fun e w' => e = .returned (.int .i64 0) ∧ Left w s w' (s.d.turn i (x.item m v) s.d.left) := by
  obtain ⟨k, n, t, r⟩ := v
  have p1 : Pur w (w.alloc (.cells #[.int .i64 k, .float .f64 n, .string ⟨t.toArray⟩, .int .i64 r] 33)) := (Pur.refl w).alloc _
  obtain ⟨p, hp, hxx, hat, hob⟩ := h.pl hx
  have AT := at_any s i _ (h.pur p1)
  rw [hat] at AT
  have RT := right_any s ⟨k, n, t, r⟩ _ (h.pur p1) hvw.1 hvw.2
  rw [show s.ps.length = s.d.xs.length from h.len.symm, hr] at RT
  have V2 : ∀ w2, Pur (w.alloc (.cells #[.int .i64 k, .float .f64 n, .string ⟨t.toArray⟩, .int .i64 r] 33)) w2 → w2.heap[w.heap.size]? = some (.cells #[.int .i64 k, .float .f64 n, .string ⟨t.toArray⟩, .int .i64 r] 33 (0, 0)) := fun w2 h2 => bk_pur (bk_new _ _) h2
  have O2 : ∀ w2, Pur (w.alloc (.cells #[.int .i64 k, .float .f64 n, .string ⟨t.toArray⟩, .int .i64 r] 33)) w2 → HpAt w2 s ∧ ObIn w2 p x := fun w2 h2 => ⟨h.pur (p1.trans h2), (h.pur (p1.trans h2)).each _ _ _ hp hxx⟩
  have IX := fun w => index_any key w (by omega)
  rw [hix] at IX
  simp only [ix] at IX
  have q1 := eqkey_no hne
  unfold lenKey at q1 hne
  obtain ⟨g, cap, hiv⟩ := row_some hob.items (by omega)
  have hmI : (m : Int) < x.items.length := by omega
  have hm0 : (0 : Int) ≤ m := by omega
  have hmD : decide ((x.items.length : Int) ≤ m) = false := decide_eq_false (by omega)
  have ST : ∀ w4, Pur (w.alloc (.cells #[.int .i64 k, .float .f64 n, .string ⟨t.toArray⟩, .int .i64 r] 33)) w4 → _ := fun w4 h4 => item_store (O2 w4 h4).1 hp hxx hiv hm ⟨k, n, t, r⟩
  have hfin : ∀ w4, Pur w w4 → HpAt (put4 w4 g m ⟨k, n, t, r⟩) (s.turn i.toNat p (x.item m ⟨k, n, t, r⟩)) → Step w4 s (put4 w4 g m ⟨k, n, t, r⟩) (s.turn i.toNat p (x.item m ⟨k, n, t, r⟩)) → Left w s (put4 w4 g m ⟨k, n, t, r⟩) (s.d.turn i (x.item m ⟨k, n, t, r⟩) s.d.left) := fun w4 h4 a b =>
    ⟨_, a, (Step.pur h4).trans b, rfl, fun j => turn_at s i.toNat p p _ hp rfl j⟩
  simp only [Va.v, Va.cells] at *
  generalize s.d.turn i (x.item m ⟨k, n, t, r⟩) s.d.left = D at *
  clear h hx hp hxx hat hr hok hvw hob
  go_enter Tryd.func16, Tryd.ntmps16
  go_wp2_with fail
  go_wp2_with fail
  refine (AT).mono ?_
  rintro e w2 ⟨rfl, rfl⟩
  go_wp2_with fail
  go_wp2_with fail
  refine (RT).mono ?_
  rintro e w2 ⟨rfl, h2⟩
  have ob := (O2 _ h2).2.own
  rw [hk] at ob
  have q0 := bk_cell ob 0 _ rfl
  clear AT RT ob
  go_wp2_with fail
  refine (IX _).mono ?_
  rintro e w3 ⟨rfl, h3⟩
  have h23 := h2.trans h3
  have B := (O2 _ h23).2.own
  rw [hk] at B
  have q0 := bk_cell B 0 _ rfl
  have q7 := bk_cell B 7 (.slice (some ⟨g, 0, none⟩) x.items.length cap) (by rw [← hiv]; rfl)
  have Z7 : ∀ y : PW w3, y.to.cell? ⟨p.o, 7, none⟩ = some (.slice (some ⟨g, 0, none⟩) x.items.length cap) := fun y => bk_cell (bk_pur B y.pur) 7 _ (by rw [← hiv]; rfl)
  have Zv := V2 _ h23
  have Z0 : ∀ y : PW w3, y.to.cell? ⟨w.heap.size, 0, none⟩ = some (.int .i64 k) := fun y => bk_cell (bk_pur Zv y.pur) 0 _ rfl
  have Z1 : ∀ y : PW w3, y.to.cell? ⟨w.heap.size, 1, none⟩ = some (.float .f64 n) := fun y => bk_cell (bk_pur Zv y.pur) 1 _ rfl
  have Z2 : ∀ y : PW w3, y.to.cell? ⟨w.heap.size, 2, none⟩ = some (.string ⟨t.toArray⟩) := fun y => bk_cell (bk_pur Zv y.pur) 2 _ rfl
  have Z3 : ∀ y : PW w3, y.to.cell? ⟨w.heap.size, 3, none⟩ = some (.int .i64 r) := fun y => bk_cell (bk_pur Zv y.pur) 3 _ rfl
  clear IX V2 B O2
  go_wp2_with fail
  refine wp_region_pur_tail 7 (by kernel_rfl) (by kernel_rfl) ?_
  simp only [List.take_succ_cons, List.take_zero, List.drop_succ_cons, List.drop_zero]
  repeat (go_big_quiet_step (fail))
  refine wpQuiet_nil ?_
  intro w4 h4
  have h24 := h23.trans h4
  obtain ⟨⟨f0, u0, c0⟩, ⟨f1, u1, c1⟩, ⟨f2, u2, c2⟩, ⟨f3, u3, c3⟩, HP, HS⟩ := ST _ h24
  have HF := hfin _ (p1.trans h24) HP HS
  unfold put4 at HF
  simp only at HF f0 f1 f2 f3 c0 c1 c2 c3
  clear Z7 Z0 Z1 Z2 Z3 Zv ST HP HS hfin
  go_wp2
  go_ret
  exact ⟨rfl, HF⟩
end Go.Proofs.YtfophnmnehpenaaDoor
namespace Go.Proofs.YtfophnmnehpenaaDoor
open Go Go.RowKit
set_option linter.all false
theorem obj_turn {d : Hd} {i : Int} {x x' : Ob} {c : Int} (h : d.obj i = some x) : (d.turn i x' c).obj i = some x' := by
  obtain ⟨-, h0, h1, -⟩ := Hd.obj_mem h
  unfold Hd.obj Hd.turn
  rw [if_neg (by omega)]
  simp only
  rw [List.getElem?_set_self (by omega)]
theorem turn_turn (d : Hd) (i : Int) (x x' : Ob) (c c' : Int) : (d.turn i x c).turn i x' c' = d.turn i x' c' := by
  unfold Hd.turn
  simp only [List.set_set]
theorem Left.then {w w3 w' : World} {s s' : Hs} {d : Hd} (h : HpAt w3 s') (k : Step w s w3 s') (ha : ∀ j, s'.at j = s.at j) (l : Left w3 s' w' d) : Left w s w' d := by
  obtain ⟨s2, h1, h2, h3, h4⟩ := l
  exact ⟨s2, h1, k.trans h2, h3, fun j => (h4 j).trans (ha j)⟩
set_option maxRecDepth 100000 in
set_option maxHeartbeats 8000000 in
theorem put_full (s : Hs) (i : Int) (x : Ob) (key : List UInt8) (v : Va) (w : World) (h : HpAt w s) {G : Nat} (hok : s.d.Ok G) (hx : s.d.obj i = some x) (hvw : v.wf) (hr : v.right s.d.xs.length = true) (hk : x.kind = 2) (hkl : key.length ≤ 1000000) (hne : ¬ key = lenKey) (m : Nat) (hix : index key = some m) (hm : x.items.length ≤ m) (hm2 : m ≤ 2147483647) (hlt : s.d.left < (m : Int) + 1 - x.items.length) :
    Calls Tryd.prog 16 #[.pointer (some ⟨s.h, 0, none⟩), .int .i64 i, .string ⟨key.toArray⟩, v.v] w fun e w' => e = .returned (.int .i64 112) ∧ Left w s w' s.d := by
  obtain ⟨k, n, t, r⟩ := v
  have p1 : Pur w (w.alloc (.cells #[.int .i64 k, .float .f64 n, .string ⟨t.toArray⟩, .int .i64 r] 33)) := (Pur.refl w).alloc _
  obtain ⟨p, hp, hxx, hat, hob⟩ := h.pl hx
  have AT := at_any s i _ (h.pur p1)
  rw [hat] at AT
  have RT := right_any s ⟨k, n, t, r⟩ _ (h.pur p1) hvw.1 hvw.2
  rw [show s.ps.length = s.d.xs.length from h.len.symm, hr] at RT
  have V2 : ∀ w2, Pur (w.alloc (.cells #[.int .i64 k, .float .f64 n, .string ⟨t.toArray⟩, .int .i64 r] 33)) w2 → w2.heap[w.heap.size]? = some (.cells #[.int .i64 k, .float .f64 n, .string ⟨t.toArray⟩, .int .i64 r] 33 (0, 0)) := fun w2 h2 => bk_pur (bk_new _ _) h2
  have O2 : ∀ w2, Pur (w.alloc (.cells #[.int .i64 k, .float .f64 n, .string ⟨t.toArray⟩, .int .i64 r] 33)) w2 → HpAt w2 s ∧ ObIn w2 p x := fun w2 h2 => ⟨h.pur (p1.trans h2), (h.pur (p1.trans h2)).each _ _ _ hp hxx⟩
  have IX := fun w => index_any key w (by omega)
  rw [hix] at IX
  simp only [ix] at IX
  have q1 := eqkey_no hne
  unfold lenKey at q1 hne
  have hmI : (x.items.length : Int) ≤ m := by omega
  have wr : IntKind.i64.wrap ((m : Int) + 1) = m + 1 := IntWalk.i64_in _ (by omega)
  have hres : s.d.resize i x (m + 1) = (112, s.d) := by unfold Hd.resize; rw [if_pos (by omega)]
  have RS := fun w3 (hp3 : Pur w w3) => resize_any s i x p.o (m + 1) w3 (h.pur hp3) hx hat (by omega) hok
  rw [hres] at RS
  rw [show (((m + 1 : Nat)) : Int) = (m : Int) + 1 from rfl] at RS
  obtain ⟨a, c, hiv⟩ := row_shape hob.items
  simp only [Va.v, Va.cells] at *
  clear h hx hp hxx hat hr hok hvw hob hres hlt
  go_enter Tryd.func16, Tryd.ntmps16
  go_wp2_with fail
  go_wp2_with fail
  refine (AT).mono ?_
  rintro e w2 ⟨rfl, rfl⟩
  go_wp2_with fail
  go_wp2_with fail
  refine (RT).mono ?_
  rintro e w2 ⟨rfl, h2⟩
  have ob := (O2 _ h2).2.own
  rw [hk] at ob
  have q0 := bk_cell ob 0 _ rfl
  clear AT RT ob
  go_wp2_with fail
  refine (IX _).mono ?_
  rintro e w3 ⟨rfl, h3⟩
  have h23 := h2.trans h3
  have B := (O2 _ h23).2.own
  rw [hk] at B
  have q0 := bk_cell B 0 _ rfl
  have q7 := bk_cell B 7 (.slice a x.items.length c) (by rw [← hiv]; rfl)
  have RS' := RS _ (p1.trans h23)
  clear IX V2 B O2 RS
  go_wp2_with fail
  refine RS'.mono ?_
  rintro e w4 ⟨rfl, hL⟩
  go_wp2
  go_ret
  exact ⟨rfl, hL.after (p1.trans h23)⟩
set_option maxRecDepth 100000 in
set_option maxHeartbeats 8000000 in
theorem put_grow (s : Hs) (i : Int) (x : Ob) (key : List UInt8) (v : Va) (w : World) (h : HpAt w s) {G : Nat} (hok : s.d.Ok G) (hx : s.d.obj i = some x) (hvw : v.wf) (hr : v.right s.d.xs.length = true) (hk : x.kind = 2) (hkl : key.length ≤ 1000000) (hne : ¬ key = lenKey) (m : Nat) (hix : index key = some m) (hm : x.items.length ≤ m) (hm2 : m ≤ 2147483647) (hlt : ¬ s.d.left < (m : Int) + 1 - x.items.length) :
    Calls Tryd.prog 16 #[.pointer (some ⟨s.h, 0, none⟩), .int .i64 i, .string ⟨key.toArray⟩, v.v] w fun e w' => e = .returned (.int .i64 0) ∧ Left w s w' (s.d.turn i ((x.resize (m + 1)).item m v) (s.d.left - ((m : Int) + 1 - x.items.length))) := by
  obtain ⟨k, n, t, r⟩ := v
  have p1 : Pur w (w.alloc (.cells #[.int .i64 k, .float .f64 n, .string ⟨t.toArray⟩, .int .i64 r] 33)) := (Pur.refl w).alloc _
  obtain ⟨p, hp, hxx, hat, hob⟩ := h.pl hx
  have AT := at_any s i _ (h.pur p1)
  rw [hat] at AT
  have RT := right_any s ⟨k, n, t, r⟩ _ (h.pur p1) hvw.1 hvw.2
  rw [show s.ps.length = s.d.xs.length from h.len.symm, hr] at RT
  have V2 : ∀ w2, Pur (w.alloc (.cells #[.int .i64 k, .float .f64 n, .string ⟨t.toArray⟩, .int .i64 r] 33)) w2 → w2.heap[w.heap.size]? = some (.cells #[.int .i64 k, .float .f64 n, .string ⟨t.toArray⟩, .int .i64 r] 33 (0, 0)) := fun w2 h2 => bk_pur (bk_new _ _) h2
  have O2 : ∀ w2, Pur (w.alloc (.cells #[.int .i64 k, .float .f64 n, .string ⟨t.toArray⟩, .int .i64 r] 33)) w2 → HpAt w2 s ∧ ObIn w2 p x := fun w2 h2 => ⟨h.pur (p1.trans h2), (h.pur (p1.trans h2)).each _ _ _ hp hxx⟩
  have IX := fun w => index_any key w (by omega)
  rw [hix] at IX
  simp only [ix] at IX
  have q1 := eqkey_no hne
  unfold lenKey at q1 hne
  have hmI : (x.items.length : Int) ≤ m := by omega
  have hm0 : (0 : Int) ≤ m := by omega
  have wr : IntKind.i64.wrap ((m : Int) + 1) = m + 1 := IntWalk.i64_in _ (by omega)
  have hres : s.d.resize i x (m + 1) = (0, s.d.turn i (x.resize (m + 1)) (s.d.left - ((m : Int) + 1 - x.items.length))) := by unfold Hd.resize; rw [if_neg (by omega)]; rfl
  have RS := fun w3 (hp3 : Pur w w3) => resize_any s i x p.o (m + 1) w3 (h.pur hp3) hx hat (by omega) hok
  rw [hres] at RS
  rw [show (((m + 1 : Nat)) : Int) = (m : Int) + 1 from rfl] at RS
  obtain ⟨a, c, hiv⟩ := row_shape hob.items
  have hxl : (x.resize (m + 1)).items.length = m + 1 := by unfold Ob.resize; rw [if_neg (by omega)]; simp; omega
  have hxk : (x.resize (m + 1)).kind = 2 := hk
  have hmL : (m : Int) < (m + 1 : Nat) := by omega
  have NX : ∀ w3 w4, Pur (w.alloc (.cells #[.int .i64 k, .float .f64 n, .string ⟨t.toArray⟩, .int .i64 r] 33)) w3 → Left w3 s w4 (s.d.turn i (x.resize (m + 1)) (s.d.left - ((m : Int) + 1 - x.items.length))) → ∃ g cap, ∃ s' p', p'.o = p.o ∧ HpAt w4 s' ∧ Step w s w4 s' ∧ (∀ j, s'.at j = s.at j) ∧ s'.d = s.d.turn i (x.resize (m + 1)) (s.d.left - ((m : Int) + 1 - x.items.length)) ∧ s'.ps[i.toNat]? = some p' ∧ s'.xs[i.toNat]? = some (x.resize (m + 1)) ∧ p'.iv = .slice (some ⟨g, 0, none⟩) (m + 1) cap ∧ w4.heap[w.heap.size]? = some (.cells #[.int .i64 k, .float .f64 n, .string ⟨t.toArray⟩, .int .i64 r] 33 (0, 0)) := fun w3 w4 h3 hL => by
    obtain ⟨s', l1, l2, l3, l4⟩ := hL
    obtain ⟨p', hp', hxx', hat', hob'⟩ := l1.pl (i := i) (x := x.resize (m + 1)) (by rw [l3]; exact obj_turn hx)
    obtain ⟨g, cap, hiv'⟩ := row_some hob'.items (by rw [hxl]; omega)
    rw [hxl] at hiv'
    refine ⟨g, cap, s', p', ?_, l1, (Step.pur (p1.trans h3)).trans l2, l4, l3, hp', hxx', hiv', ?_⟩
    · have := l4 i
      rw [hat', hat] at this
      simpa using this
    · have hv := V2 _ h3
      exact (l2.chg.block _ (bk_lt hv) (fun hm => by have := h.lt _ hm; omega)).trans hv
  have HV' := hvw
  simp only [Va.v, Va.cells] at *
  clear h hp hxx hat hr hok hvw hob hres hlt hx
  go_enter Tryd.func16, Tryd.ntmps16
  go_wp2_with fail
  go_wp2_with fail
  refine (AT).mono ?_
  rintro e w2 ⟨rfl, rfl⟩
  go_wp2_with fail
  go_wp2_with fail
  refine (RT).mono ?_
  rintro e w2 ⟨rfl, h2⟩
  have ob := (O2 _ h2).2.own
  rw [hk] at ob
  have q0 := bk_cell ob 0 _ rfl
  clear AT RT ob
  go_wp2_with fail
  refine (IX _).mono ?_
  rintro e w3 ⟨rfl, h3⟩
  have h23 := h2.trans h3
  have B := (O2 _ h23).2.own
  rw [hk] at B
  have q0 := bk_cell B 0 _ rfl
  have q7 := bk_cell B 7 (.slice a x.items.length c) (by rw [← hiv]; rfl)
  have RS' := RS _ (p1.trans h23)
  clear IX V2 B O2 RS hiv
  go_wp2_with fail
  refine RS'.mono ?_
  rintro e w4 ⟨rfl, hL⟩
  obtain ⟨g, cap, s', p', ho', h4, k4, a4, d4, hp', hxx', hiv, Zv⟩ := NX _ _ h23 hL
  have B := (h4.each _ _ _ hp' hxx').own
  rw [ho', hxk] at B
  have Z7 : ∀ y : PW w4, y.to.cell? ⟨p.o, 7, none⟩ = some (.slice (some ⟨g, 0, none⟩) (m + 1) cap) := fun y => bk_cell (bk_pur B y.pur) 7 _ (by rw [← hiv]; rfl)
  have Z0 : ∀ y : PW w4, y.to.cell? ⟨w.heap.size, 0, none⟩ = some (.int .i64 k) := fun y => bk_cell (bk_pur Zv y.pur) 0 _ rfl
  have Z1 : ∀ y : PW w4, y.to.cell? ⟨w.heap.size, 1, none⟩ = some (.float .f64 n) := fun y => bk_cell (bk_pur Zv y.pur) 1 _ rfl
  have Z2 : ∀ y : PW w4, y.to.cell? ⟨w.heap.size, 2, none⟩ = some (.string ⟨t.toArray⟩) := fun y => bk_cell (bk_pur Zv y.pur) 2 _ rfl
  have Z3 : ∀ y : PW w4, y.to.cell? ⟨w.heap.size, 3, none⟩ = some (.int .i64 r) := fun y => bk_cell (bk_pur Zv y.pur) 3 _ rfl
  have ST : ∀ w5, Pur w4 w5 → _ := fun w5 h5 => item_store (m := m) (g := g) (cap := cap) (h4.pur h5) hp' hxx' (by rw [hxl]; exact hiv) (by rw [hxl]; omega) ⟨k, n, t, r⟩
  have hfin : ∀ w5, Pur w4 w5 → HpAt (put4 w5 g m ⟨k, n, t, r⟩) (s'.turn i.toNat p' ((x.resize (m + 1)).item m ⟨k, n, t, r⟩)) → Step w5 s' (put4 w5 g m ⟨k, n, t, r⟩) (s'.turn i.toNat p' ((x.resize (m + 1)).item m ⟨k, n, t, r⟩)) → Left w s (put4 w5 g m ⟨k, n, t, r⟩) (s.d.turn i ((x.resize (m + 1)).item m ⟨k, n, t, r⟩) (s.d.left - ((m : Int) + 1 - x.items.length))) := fun w5 h5 a b => by
    refine Left.then h4 k4 a4 ⟨_, a, (Step.pur h5).trans b, ?_, fun j => turn_at s' i.toNat p' p' _ hp' rfl j⟩
    have e1 : (s'.turn i.toNat p' ((x.resize (m + 1)).item m ⟨k, n, t, r⟩)).d = s'.d.turn i ((x.resize (m + 1)).item m ⟨k, n, t, r⟩) s'.d.left := rfl
    rw [e1, d4, turn_turn]
    rfl
  clear NX hL RS' B h4 k4 a4 d4 hp' hxx' hxk hxl q0 q7
  go_wp2_with fail
  refine wp_region_pur_tail 7 (by kernel_rfl) (by kernel_rfl) ?_
  simp only [List.take_succ_cons, List.take_zero, List.drop_succ_cons, List.drop_zero]
  repeat (go_big_quiet_step (fail))
  refine wpQuiet_nil ?_
  intro w5 h5
  obtain ⟨⟨f0, u0, c0⟩, ⟨f1, u1, c1⟩, ⟨f2, u2, c2⟩, ⟨f3, u3, c3⟩, HP, HS⟩ := ST _ h5
  have HF := hfin _ h5 HP HS
  unfold put4 at HF
  simp only at HF f0 f1 f2 f3 c0 c1 c2 c3
  clear Z7 Z0 Z1 Z2 Z3 Zv ST HP HS hfin
  go_wp2
  go_ret
  exact ⟨rfl, HF⟩
end Go.Proofs.YtfophnmnehpenaaDoor
