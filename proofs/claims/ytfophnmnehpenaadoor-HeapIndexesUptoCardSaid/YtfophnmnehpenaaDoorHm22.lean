/- Layer 8: an object's properties and items turned; (*Heap).Put where nothing is put. -/
import Derived.Test.YtfophnmnehpenaaDoorHm19
import Derived.Test.YtfophnmnehpenaaDoorHm21
import Derived.Test.YtfophnmnehpenaaDoorHm8
import Derived.Test.YtfophnmnehpenaaDoorHm14
import Derived.Laws.OwnMore
namespace Go.Proofs.YtfophnmnehpenaaDoor
open Go Go.RowKit
set_option linter.all false
theorem Left.after {w w3 w' : World} {s : Hs} {d : Hd} (hp : Pur w w3) (h : Left w3 s w' d) : Left w s w' d := by
  obtain ⟨s', h1, h2, h3⟩ := h
  exact ⟨s', h1, (Step.pur hp).trans h2, h3⟩
theorem MapAt.put {w w' : World} {m n n' : Nat} {f : List UInt8 → Option Va} {D : DataW Va} {k : List UInt8} {x : Va} (hD : w.ownsMap Tryd.prog 9 RV m n D)
    (hf : ∀ k, Maps.has D (.string k) = (f k).isSome ∧ ∀ z, D.atKey (.string k) z = ((f k).map DataW.held).getD z)
    (h' : w'.ownsMap Tryd.prog 9 RV m (n + 1) (D.put (.string k) (.held x))) (hn : n' = if (f k).isSome = true then n else n + 1) : MapAt w' m n' (upd f k (some x)) := by
  have hs := hD.size_le
  have ht : w'.ownsMap Tryd.prog 9 RV m n' (D.put (.string k) (.held x)) := by
    refine (World.ownsMap_tight h').mono ?_
    rw [Maps.size_put (hD.tidy va_law), (hf k).1, hn]
    split <;> omega
  refine ⟨_, ht, fun k' => ?_⟩
  unfold upd
  by_cases hk : k' = k
  · subst hk
    rw [if_pos rfl]
    exact ⟨Maps.has_put_same hD.isMap (show WideAt.IsKeyLit (.string k') from trivial) _, fun z => Maps.atKey_put_same hD.isMap (show WideAt.IsKeyLit (.string k') from trivial) _ z⟩
  · rw [if_neg hk]
    have hne : Lit.string k' ≠ Lit.string k := fun e => hk (by injection e)
    exact ⟨(Maps.has_put_other hne _).trans (hf k').1, fun z => (Maps.atKey_put_other hne _ z).trans ((hf k').2 z)⟩
/-- the properties turned: the map, and the keys' slice -/
theorem HpAt.props {w w2 : World} {s : Hs} (h : HpAt w s) {i : Nat} {p : Pl} {x : Ob} (hp : s.ps[i]? = some p) (hx : s.xs[i]? = some x) {v' : Value} {ks : List (List UInt8)} {f : List UInt8 → Option Va}
    (hc : Chg (p.o :: p.m :: p.kv.ownBlock.toList) w w2)
    (ho : w2.heap[p.o]? = some (.cells #[.int .i64 x.kind, .int .i64 x.proto, .int .i64 x.a, .int .i64 x.b, .int .i64 x.scope, v', .map (some p.m), p.iv] 78 (0, 0)))
    (hv : w2.ownsRow 0 9 1 v' ks.length (keyVs ks)) (hm : MapAt w2 p.m ks.length f) (hid : ∀ b, v'.ownBlock = some b → p.kv.ownBlock = some b ∨ w.heap.size ≤ b) :
    HpAt w2 (s.turn i ⟨p.o, p.m, v', p.iv⟩ { x with keys := ks, props := f }) ∧ Step w s w2 (s.turn i ⟨p.o, p.m, v', p.iv⟩ { x with keys := ks, props := f }) := by
  have hob := h.each i p x hp hx
  have hnd := pl_nodup h hp
  have hlt := hob.lt
  unfold Pl.blocks at hnd
  simp only [List.nodup_cons, List.mem_cons, List.mem_append, not_or, Option.mem_toList] at hnd
  obtain ⟨⟨n1, n2, n3⟩, ⟨n4, n5⟩, n6⟩ := hnd
  rw [List.nodup_append] at n6
  obtain ⟨n7, n8, n9⟩ := n6
  have ii : ∀ g, p.iv.ownBlock = some g → w2.heap[g]? = w.heap[g]? := fun g hg => hc.block g (hlt g (by simp [Pl.blocks, hg])) (by
    simp only [List.mem_cons, Option.mem_toList, not_or]
    exact ⟨fun e => n3 (e ▸ hg), fun e => n5 (e ▸ hg), fun e => n9 g (by simpa using e) g (by simp [hg]) rfl⟩)
  refine h.turn hp hx (hc.sub fun b hb => ?_) ⟨ho, hv, hm, World.ownsRow_same hob.items ii⟩ rfl ?_ ?_
  · simp only [Pl.blocks, List.mem_cons, List.mem_append] at hb ⊢
    rcases hb with h | h | h
    · exact .inl h
    · exact .inr (.inl h)
    · exact .inr (.inr (.inl h))
  · have f1 : ∀ b, v'.ownBlock = some b → b ≠ p.o ∧ b ≠ p.m ∧ p.iv.ownBlock ≠ some b := fun b hb => by
      rcases hid b hb with e | e
      · exact ⟨fun h => n2 (h ▸ e), fun h => n4 (h ▸ e), fun h => n9 b (by simp [e]) b (by simp [h]) rfl⟩
      · refine ⟨fun h => ?_, fun h => ?_, fun h => ?_⟩
        · have := hlt p.o (by simp [Pl.blocks]); omega
        · have := hlt p.m (by simp [Pl.blocks]); omega
        · have := hlt b (by simp [Pl.blocks, h]); omega
    unfold Pl.blocks
    simp only [List.nodup_cons, List.mem_cons, List.mem_append, not_or, Option.mem_toList, List.nodup_append]
    refine ⟨⟨n1, fun e => (f1 _ e).1 rfl, n3⟩, ⟨fun e => (f1 _ e).2.1 rfl, n5⟩, by cases v'.ownBlock <;> simp, n8, fun a ha b hb e => (f1 a ha).2.2 (by rw [e]; exact hb)⟩
  · intro b hb
    simp only [Pl.blocks, List.mem_cons, List.mem_append, Option.mem_toList] at hb ⊢
    rcases hb with rfl | rfl | hb | hb
    · exact .inl (.inl rfl)
    · exact .inl (.inr (.inl rfl))
    · rcases hid b hb with e | e
      · exact .inl (.inr (.inr (.inl e)))
      · exact .inr e
    · exact .inl (.inr (.inr (.inr hb)))
set_option maxRecDepth 100000 in
set_option maxHeartbeats 4000000 in
theorem put_none (s : Hs) (i : Int) (key : List UInt8) (v : Va) (w : World) (h : HpAt w s) (hx : s.d.obj i = none) :
    Calls Tryd.prog 16 #[.pointer (some ⟨s.h, 0, none⟩), .int .i64 i, .string ⟨key.toArray⟩, v.v] w fun e w' => e = .returned (.int .i64 3) ∧ Left w s w' s.d := by
  obtain ⟨k, n, t, r⟩ := v
  have p1 : Pur w (w.alloc (.cells #[.int .i64 k, .float .f64 n, .string ⟨t.toArray⟩, .int .i64 r] 33)) := (Pur.refl w).alloc _
  have AT := at_any s i _ (h.pur p1)
  rw [(at_none h i).2 hx] at AT
  have hfin : ∀ w', Pur w w' → Left w s w' s.d := fun w' hpp => ⟨s, h.pur hpp, Step.pur hpp, rfl, fun _ => rfl⟩
  simp only [Va.v, Va.cells]
  clear h hx
  go_enter Tryd.func16, Tryd.ntmps16
  go_wp2_with fail
  go_wp2_with fail
  refine (AT).mono ?_
  rintro e w2 ⟨rfl, rfl⟩
  go_wp2
  go_ret
  exact ⟨rfl, hfin _ p1⟩
set_option maxRecDepth 100000 in
set_option maxHeartbeats 4000000 in
theorem put_wrong (s : Hs) (i : Int) (x : Ob) (key : List UInt8) (v : Va) (w : World) (h : HpAt w s) (hx : s.d.obj i = some x) (hvw : v.wf) (hr : v.right s.d.xs.length = false) :
    Calls Tryd.prog 16 #[.pointer (some ⟨s.h, 0, none⟩), .int .i64 i, .string ⟨key.toArray⟩, v.v] w fun e w' => e = .returned (.int .i64 1) ∧ Left w s w' s.d := by
  obtain ⟨k, n, t, r⟩ := v
  have p1 : Pur w (w.alloc (.cells #[.int .i64 k, .float .f64 n, .string ⟨t.toArray⟩, .int .i64 r] 33)) := (Pur.refl w).alloc _
  obtain ⟨p, hp, hxx, hat, hob⟩ := h.pl hx
  have AT := at_any s i _ (h.pur p1)
  rw [hat] at AT
  have RT := right_any s ⟨k, n, t, r⟩ _ (h.pur p1) hvw.1 hvw.2
  rw [show s.ps.length = s.d.xs.length from h.len.symm, hr] at RT
  have hfin : ∀ w', Pur w w' → Left w s w' s.d := fun w' hpp => ⟨s, h.pur hpp, Step.pur hpp, rfl, fun _ => rfl⟩
  simp only [Va.v, Va.cells] at *
  clear h hx hp hxx hat hob hr
  go_enter Tryd.func16, Tryd.ntmps16
  go_wp2_with fail
  go_wp2_with fail
  refine (AT).mono ?_
  rintro e w2 ⟨rfl, rfl⟩
  go_wp2_with fail
  go_wp2_with fail
  refine (RT).mono ?_
  rintro e w3 ⟨rfl, h3⟩
  go_wp2
  go_ret
  exact ⟨rfl, hfin _ (p1.trans h3)⟩
end Go.Proofs.YtfophnmnehpenaaDoor
