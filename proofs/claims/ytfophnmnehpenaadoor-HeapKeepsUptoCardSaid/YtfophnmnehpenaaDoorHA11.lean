/- Layer 8: (*Heap).Drop: plain words; what a delete and slices.DeleteFunc leave. -/
import Derived.Test.YtfophnmnehpenaaDoorHA8
import Derived.Test.YtfophnmnehpenaaDoorShelf2
import Derived.BigRegion
namespace Go.Proofs.YtfophnmnehpenaaDoor
open Go Go.RowKit
set_option linter.all false
def Ob.unprop (x : Ob) (key : List UInt8) : Ob := { x with keys := x.keys.filter fun k => !(k == key), props := upd x.props key none }
def Hd.drop (d : Hd) (i : Int) (key : List UInt8) : Bool × Hd :=
  match d.obj i with
  | none => (false, d)
  | some x => match (if x.kind = 2 then index key else none) with
    | some n => if x.items.length ≤ n then (false, d) else (true, d.turn i (x.item n Va.zero) d.left)
    | none => if (x.props key).isSome = true then (true, d.turn i (x.unprop key) (d.left + 1)) else (false, d)
theorem filter_len : ∀ (l : List (List UInt8)) (k : List UInt8), l.Nodup → k ∈ l → (l.filter fun j => !(j == k)).length + 1 = l.length
  | [], k, _, h => by cases h
  | a :: r, k, hn, h => by
    rw [List.nodup_cons] at hn
    by_cases e : a = k
    · subst e
      have hr : (r.filter fun j => !(j == a)) = r := by
        rw [List.filter_eq_self]
        intro b hb
        simp only [Bool.not_eq_true', beq_eq_false_iff_ne, ne_eq]
        exact fun e => hn.1 (e ▸ hb)
      simp [hr]
    · have hk : k ∈ r := by
        rcases List.mem_cons.1 h with h | h
        · exact absurd h.symm e
        · exact h
      have ih := filter_len r k hn.2 hk
      have ea : (a == k) = false := by simpa using e
      simp only [List.filter_cons, ea, Bool.not_false, if_true, List.length_cons]
      omega
theorem Ob.unprop_ok {n : Nat} {x : Ob} (h : x.Ok n) (key : List UInt8) : (x.unprop key).Ok n := by
  obtain ⟨h1, h2, h3⟩ := h
  refine ⟨h1, h2.filter _, fun k => ?_⟩
  unfold Ob.unprop upd
  simp only [List.mem_filter]
  by_cases hk : k = key
  · subst hk
    simp
  · rw [if_neg hk, ← h3 k]
    simp [hk]
theorem Hd.Ok.drop {G : Nat} {d : Hd} (h : d.Ok G) (i : Int) (key : List UInt8) : (d.drop i key).2.Ok G := by
  unfold Hd.drop
  split
  · exact h
  · next x hx =>
    have hk := h.at hx
    have hb := h.bounds
    split
    · next n _ =>
      split
      · exact h
      · refine h.turn hx hb.1 ?_ hk
        unfold Ob.item Ob.cost
        simp only [List.length_set]
    · split
      · next hs =>
        refine h.turn hx (by omega) ?_ (Ob.unprop_ok hk _)
        have := filter_len x.keys key hk.2.1 ((hk.2.2 key).2 hs)
        unfold Ob.unprop Ob.cost
        simp only
        omega
      · exact h
theorem MapAt.del {w w' : World} {m n n' : Nat} {f : List UInt8 → Option Va} {D : DataW Va} {k : List UInt8} (hD : w.ownsMap Tryd.prog 9 RV m n D)
    (hf : ∀ k, Maps.has D (.string k) = (f k).isSome ∧ ∀ z, D.atKey (.string k) z = ((f k).map DataW.held).getD z)
    (h' : w'.ownsMap Tryd.prog 9 RV m n (D.del (.string k))) (hk : (f k).isSome = true) (hn : n' + 1 = n) : MapAt w' m n' (upd f k none) := by
  have hs := hD.size_le
  have ht : w'.ownsMap Tryd.prog 9 RV m n' (D.del (.string k)) := by
    refine (World.ownsMap_tight h').mono ?_
    have := Maps.size_del (k := .string k) (hD.tidy va_law)
    rw [(hf k).1, hk] at this
    simp at this
    omega
  refine ⟨_, ht, fun k' => ?_⟩
  unfold upd
  by_cases hk : k' = k
  · subst hk
    rw [if_pos rfl]
    exact ⟨Maps.has_del_same, fun z => Maps.atKey_del_same z⟩
  · rw [if_neg hk]
    have hne : Lit.string k' ≠ Lit.string k := fun e => hk (by injection e)
    exact ⟨(Maps.has_del_other hne).trans (hf k').1, fun z => (Maps.atKey_del_other hne z).trans ((hf k').2 z)⟩
/-- a lookup's run, in whatever world the map lies -/
theorem look_run {w : World} {m n : Nat} {D : DataW Va} {key : List UInt8} (hD : w.ownsMap Tryd.prog 9 RV m n D) (hkl : key.length ≤ 1000000) {y : Va} (hy : D.atKey (.string key) (.held Va.zero) = .held y) {b : Bool} (hb : Maps.has D (.string key) = b) :
    (Instr.lookup 76 (.map (some m)) (.string ⟨key.toArray⟩) true).run Tryd.prog w = .ok (.tuple #[y.v, .bool b]) w := by
  obtain ⟨v, ps, hrun, hv⟩ := hD.look_ok (e := 33) va_law Tryd.underlying76 (zero_va w) (RV_v Va.zero) (key_lit (k := key) (by unfold maxLen; omega))
  rw [hy] at hv
  obtain rfl := RV_inv hv
  rw [hb] at hrun
  exact hrun
theorem drew_pur {w w' : World} (h : Pur w w') : Pur w w'.drew := ⟨h.os, h.tape, h.output, h.size, h.block⟩
def strV (k : List UInt8) : Value := .string ⟨k.toArray⟩
theorem put_row_other {α : Type} [Inhabited α] (enc : α → Value) (w : World) (q blk off : Nat) (d : Array α) (b : Nat) (h : b ≠ blk) : (Sort.putRow enc (Sort.ahead w q) blk off d).heap[b]? = w.heap[b]? := by
  unfold Sort.putRow Sort.mapBlock Sort.ahead
  simp only
  rw [Array.getElem?_modify, if_neg (fun e => h e.symm)]
theorem put_row_chg {α : Type} [Inhabited α] (enc : α → Value) (w : World) (q blk off : Nat) (d : Array α) : Chg [blk] w (Sort.putRow enc (Sort.ahead w q) blk off d) :=
  ⟨rfl, rfl, rfl, by simp [Sort.ahead], fun k _ hn => put_row_other enc w q blk off d k (by simpa using hn)⟩
theorem put_row_own {w : World} {B g cap n : Nat} {e : TypeId} {xs : List Value} (h : w.ownsRow B e 1 (.slice (some ⟨g, 0, none⟩) n cap) n xs) (q : Nat) (ks : List (List UInt8)) (m : Nat) (hm : ks.length + m = n) :
    (Sort.putRow strV (Sort.ahead w q) g 0 (ks ++ List.replicate m []).toArray).ownsRow B e 1 (.slice (some ⟨g, 0, none⟩) ks.length cap) ks.length (keyVs ks) := by
  refine ⟨by simp [keyVs], ?_⟩
  rcases h.2 with ⟨e1, -⟩ | ⟨g', cap', cur, e1, hb, hg, hnc, hcm, hcs, htake⟩
  · cases e1
  · simp only [Value.slice.injEq, Option.some.injEq, Addr.mk.injEq, and_true, true_and] at e1
    obtain ⟨rfl, rfl⟩ := e1
    refine .inr ⟨g, cap, Sort.putCells strV 0 (ks ++ List.replicate m []).toArray cur, rfl, hb, ?_, by omega, hcm, by simpa [Sort.putCells] using hcs, ?_⟩
    · unfold Sort.putRow Sort.mapBlock Sort.ahead
      simp only
      rw [Array.getElem?_modify, if_pos rfl, hg]
      rfl
    · apply List.ext_getElem?
      intro j
      rw [Nat.mul_one, List.getElem?_take]
      by_cases hj : j < ks.length
      · rw [if_pos hj]
        have hjc : j < cur.size := by omega
        simp only [Sort.putCells, Array.getElem?_toList, Array.getElem?_mapIdx, Array.getElem?_eq_getElem hjc, Option.map_some]
        have hjs : j < (ks ++ List.replicate m ([] : List UInt8)).toArray.size := by simp; omega
        rw [if_pos ⟨Nat.zero_le _, by simpa using hjs⟩, Nat.sub_zero, getElem!_pos _ j hjs]
        simp [keyVs, strV, hj]
      · rw [if_neg hj, List.getElem?_eq_none (by rw [keyVs]; simp; omega)]
/-- a property taken away -/
theorem prop_gone {w4 w5 w6 : World} {s : Hs} (h : HpAt w4 s) {i : Nat} {p : Pl} {x : Ob} (hp : s.ps[i]? = some p) (hx : s.xs[i]? = some x) {key : List UInt8} {D : DataW Va} {g cap q : Nat} (h5 : Pur w4 w5)
    (hD : w5.ownsMap Tryd.prog 9 RV p.m x.keys.length D) (hf : ∀ k, Maps.has D (.string k) = (x.props k).isSome ∧ ∀ z, D.atKey (.string k) z = ((x.props k).map DataW.held).getD z)
    (h6 : w6.ownsMap Tryd.prog 9 RV p.m x.keys.length (D.del (.string key))) (ht : w5.mapTurned w6 p.m) (hbo : (x.props key).isSome = true)
    (hkv : p.kv = .slice (some ⟨g, 0, none⟩) x.keys.length cap) (hn : x.Ok i) :
    HpAt ((Sort.putRow strV (Sort.ahead w6 q) g 0 ((x.keys.filter fun k => !(k == key)) ++ List.replicate (x.keys.length - (x.keys.filter fun k => !(k == key)).length) []).toArray).setCell ⟨p.o, 5, none⟩ (.slice (some ⟨g, 0, none⟩) (x.keys.filter fun k => !(k == key)).length cap)) (s.turn i ⟨p.o, p.m, .slice (some ⟨g, 0, none⟩) (x.keys.filter fun k => !(k == key)).length cap, p.iv⟩ (x.unprop key)) ∧
    Step w4 s ((Sort.putRow strV (Sort.ahead w6 q) g 0 ((x.keys.filter fun k => !(k == key)) ++ List.replicate (x.keys.length - (x.keys.filter fun k => !(k == key)).length) []).toArray).setCell ⟨p.o, 5, none⟩ (.slice (some ⟨g, 0, none⟩) (x.keys.filter fun k => !(k == key)).length cap)) (s.turn i ⟨p.o, p.m, .slice (some ⟨g, 0, none⟩) (x.keys.filter fun k => !(k == key)).length cap, p.iv⟩ (x.unprop key)) ∧
    (Sort.putRow strV (Sort.ahead w6 q) g 0 ((x.keys.filter fun k => !(k == key)) ++ List.replicate (x.keys.length - (x.keys.filter fun k => !(k == key)).length) []).toArray).heap[p.o]? = some (.cells #[.int .i64 x.kind, .int .i64 x.proto, .int .i64 x.a, .int .i64 x.b, .int .i64 x.scope, p.kv, .map (some p.m), p.iv] 78 (0, 0)) := by
  have hob := h.each i p x hp hx
  have hnd := pl_nodup h hp
  have hlt := hob.lt
  have hlen := filter_len x.keys key hn.2.1 ((hn.2.2 key).2 hbo)
  unfold Pl.blocks at hnd
  simp only [List.nodup_cons, List.mem_cons, List.mem_append, not_or, Option.mem_toList] at hnd
  obtain ⟨⟨n1, n2, n3⟩, ⟨n4, n5⟩, n6⟩ := hnd
  have hkb : p.kv.ownBlock = some g := by rw [hkv]; rfl
  have og : p.o ≠ g := fun e => n2 (by rw [hkb, e])
  have mg : p.m ≠ g := fun e => n4 (by rw [hkb, e])
  have gl : g < w4.heap.size := hlt g (by simp [Pl.blocks, hkb])
  have ol : p.o < w4.heap.size := hlt p.o (by simp [Pl.blocks])
  have ml : p.m < w4.heap.size := hlt p.m (by simp [Pl.blocks])
  have hc := turned_chg ht
  have B6 := (hc.block _ (bk_lt (bk_pur hob.own h5)) (by simpa using n1)).trans (bk_pur hob.own h5)
  have B7 := (put_row_other strV w6 q g 0 ((x.keys.filter fun k => !(k == key)) ++ List.replicate (x.keys.length - (x.keys.filter fun k => !(k == key)).length) []).toArray p.o og).trans B6
  have R6 : w6.ownsRow 0 9 1 (.slice (some ⟨g, 0, none⟩) x.keys.length cap) x.keys.length (keyVs x.keys) := by
    rw [← hkv]
    refine World.ownsRow_same hob.keys fun b hb => ?_
    rw [hkb] at hb
    cases hb
    exact (hc.block _ (Nat.lt_of_lt_of_le gl h5.size) (by simpa using fun e : g = p.m => mg e.symm)).trans (h5.block _ gl)
  have R7 := put_row_own R6 q (x.keys.filter fun k => !(k == key)) (x.keys.length - (x.keys.filter fun k => !(k == key)).length) (by omega)
  have hcP := put_row_chg strV w6 q g 0 ((x.keys.filter fun k => !(k == key)) ++ List.replicate (x.keys.length - (x.keys.filter fun k => !(k == key)).length) []).toArray
  have M7 := World.ownsMap_same h6 (put_row_other strV w6 q g 0 ((x.keys.filter fun k => !(k == key)) ++ List.replicate (x.keys.length - (x.keys.filter fun k => !(k == key)).length) []).toArray p.m mg)
  generalize Sort.putRow strV (Sort.ahead w6 q) g 0 ((x.keys.filter fun k => !(k == key)) ++ List.replicate (x.keys.length - (x.keys.filter fun k => !(k == key)).length) []).toArray = w7 at *
  have hres := h.props hp hx (w2 := w7.setCell ⟨p.o, 5, none⟩ (.slice (some ⟨g, 0, none⟩) (x.keys.filter fun k => !(k == key)).length cap)) (v' := .slice (some ⟨g, 0, none⟩) (x.keys.filter fun k => !(k == key)).length cap) (ks := x.keys.filter fun k => !(k == key)) (f := upd x.props key none) ?_ (bk_set B7 5 _) ?_ ?_ ?_
  · exact ⟨hres.1, hres.2, B7⟩
  · refine (Chg.pur h5 _).trans ((hc.sub fun b hb => ?_).trans ((hcP.sub fun b hb => ?_).trans ((Chg.set w7 ⟨p.o, 5, none⟩ _).sub fun b hb => ?_)))
    · simp at hb; simp [hb]
    · simp at hb; simp [hb, hkb]
    · simp at hb; simp [hb]
  · exact World.ownsRow_same R7 fun b hb => RowKit.Below.heap_setCell _ _ _ _ (fun e => by cases hb; exact og e.symm)
  · have e8 : (w7.setCell ⟨p.o, 5, none⟩ (.slice (some ⟨g, 0, none⟩) (x.keys.filter fun k => !(k == key)).length cap)).heap[p.m]? = w7.heap[p.m]? := RowKit.Below.heap_setCell _ _ _ _ (fun e => n1 e.symm)
    exact (MapAt.del hD hf M7 hbo hlen).same e8
  · intro b hb
    cases hb
    exact .inl hkb
end Go.Proofs.YtfophnmnehpenaaDoor
