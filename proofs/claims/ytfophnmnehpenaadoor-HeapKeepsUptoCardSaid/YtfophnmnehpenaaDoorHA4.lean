/- Layer 8: (*Heap).Own. Layer 8: (*Heap).Own: no object; a property. Layer 8: (*Heap).Own: an array's item, or its property. Layer 8: (*Heap).Own: an array's item. Layer 8: (*Heap).Own: an array's property. Layer 8: (*Heap).Own, whole. Layer 8: (*Heap).holder, (*Heap).Get. Layer 8: (*Heap).Get. -/
import Derived.Test.YtfophnmnehpenaaDoorHA2
import Derived.Test.YtfophnmnehpenaaDoorHp4
import Derived.Maps.OwnSet
namespace Go.Proofs.YtfophnmnehpenaaDoor
open Go Go.RowKit
set_option linter.all false
/-- an object of the heap, with its place -/
theorem HpAt.find {w : World} {s : Hs} (h : HpAt w s) {i : Int} {x : Ob} (hx : s.d.obj i = some x) : ∃ p, s.at i = some ⟨p.o, 0, none⟩ ∧ ObIn w p x ∧ p ∈ s.ps := by
  unfold Hd.obj Hs.d at hx
  unfold Hs.at
  split at hx
  · cases hx
  · next h0 =>
    have hl := (List.getElem?_eq_some_iff.1 hx).1
    simp only at hx hl
    have hl' : i.toNat < s.ps.length := by rw [← h.len]; exact hl
    refine ⟨s.ps[i.toNat], ?_, h.each _ _ _ (List.getElem?_eq_getElem hl') hx, List.getElem_mem hl'⟩
    rw [if_neg (by omega), List.getElem?_eq_getElem hl']
    rfl
set_option maxRecDepth 100000 in
set_option maxHeartbeats 4000000 in
theorem own_len (s : Hs) (i : Int) (x : Ob) (w : World) (h : HpAt w s) (hx : s.d.obj i = some x) (hk : x.kind = 2) (hn : x.items.length ≤ 10000) :
    Calls Tryd.prog 20 #[.pointer (some ⟨s.h, 0, none⟩), .int .i64 i, .string ⟨lenKey.toArray⟩] w fun e w' => e = .returned (.tuple #[(Va.mk 3 (floatOfInt .f64 x.items.length) [] 0).v, .bool true]) ∧ Pur w w' := by
  have AT := at_any s i w h
  obtain ⟨p, hp, hob, -⟩ := h.find hx
  rw [hp] at AT
  obtain ⟨a, c, hiv⟩ := row_shape hob.items
  have B := hob.own
  rw [hiv, hk] at B
  have B1 := bk_alloc B (.cells #[.int .i64 0, .float .f64 0, .string ⟨#[]⟩, .int .i64 0] 33)
  have k0 := bk_cell B1 0 _ rfl
  have k7 := bk_cell B1 7 _ rfl
  have AT' := at_any s i _ (h.pur ((Pur.refl w).alloc (.cells #[.int .i64 0, .float .f64 0, .string ⟨#[]⟩, .int .i64 0] 33)))
  rw [hp] at AT'
  clear AT B B1 hob hiv h hx hk
  unfold lenKey
  go_enter Tryd.func20, Tryd.ntmps20
  go_wp2_with fail
  refine AT'.mono ?_
  rintro e w1 ⟨rfl, rfl⟩
  go_wp2_with fail
  refine bodyPost_ret (v := .tuple #[.agg #[.int .i64 3, .float .f64 (floatOfInt .f64 x.items.length), .string ⟨#[]⟩, .int .i64 0], .bool true]) (by simp [results, Tryd.results20, go_sem]) rfl ⟨rfl, ?_⟩
  repeat (first | exact Pur.refl _ | with_reducible refine Pur.setCell ?_ (Nat.le_refl _) _ | with_reducible refine Pur.alloc ?_ _)
end Go.Proofs.YtfophnmnehpenaaDoor
namespace Go.Proofs.YtfophnmnehpenaaDoor
open Go Go.RowKit
set_option linter.all false
theorem zero_va (w : World) : (zeroValue 33).run Tryd.prog w = .ok Va.zero.v w := by kernel_rfl
theorem va_law : Go.Maps.Keyed Tryd.prog 9 := Go.Maps.string_keyed Tryd.underlying9
set_option maxRecDepth 100000 in
set_option maxHeartbeats 4000000 in
theorem own_none (s : Hs) (i : Int) (key : List UInt8) (w : World) (h : HpAt w s) (hx : s.d.obj i = none) :
    Calls Tryd.prog 20 #[.pointer (some ⟨s.h, 0, none⟩), .int .i64 i, .string ⟨key.toArray⟩] w fun e w' => e = .returned (.tuple #[Va.zero.v, .bool false]) ∧ Pur w w' := by
  have AT' := at_any s i _ (h.pur ((Pur.refl w).alloc (.cells #[.int .i64 0, .float .f64 0, .string ⟨#[]⟩, .int .i64 0] 33)))
  rw [(at_none h i).2 hx] at AT'
  clear h hx
  go_enter Tryd.func20, Tryd.ntmps20
  go_wp2_with fail
  refine AT'.mono ?_
  rintro e w1 ⟨rfl, rfl⟩
  go_wp2_with fail
  refine bodyPost_ret (v := .tuple #[.agg #[.int .i64 0, .float .f64 0, .string ⟨#[]⟩, .int .i64 0], .bool false]) (by simp [results, Tryd.results20, go_sem]) rfl ⟨rfl, ?_⟩
  repeat (first | exact Pur.refl _ | with_reducible refine Pur.setCell ?_ (Nat.le_refl _) _ | with_reducible refine Pur.alloc ?_ _)
set_option maxRecDepth 100000 in
set_option maxHeartbeats 4000000 in
theorem own_prop (s : Hs) (i : Int) (x : Ob) (key : List UInt8) (w : World) (h : HpAt w s) (hx : s.d.obj i = some x) (hk : x.kind ≠ 2) (hkl : key.length ≤ 1000000) :
    Calls Tryd.prog 20 #[.pointer (some ⟨s.h, 0, none⟩), .int .i64 i, .string ⟨key.toArray⟩] w fun e w' => e = .returned (.tuple #[((x.props key).getD Va.zero).v, .bool (x.props key).isSome]) ∧ Pur w w' := by
  obtain ⟨p, hp, hob, -⟩ := h.find hx
  have B1 := bk_alloc hob.own (.cells #[.int .i64 0, .float .f64 0, .string ⟨#[]⟩, .int .i64 0] 33)
  have k0 := bk_cell B1 0 _ rfl
  have k6 := bk_cell B1 6 _ rfl
  have AT' := at_any s i _ (h.pur ((Pur.refl w).alloc (.cells #[.int .i64 0, .float .f64 0, .string ⟨#[]⟩, .int .i64 0] 33)))
  rw [hp] at AT'
  obtain ⟨D, hD, hf⟩ := hob.props
  have hD' := hD.alloc (.cells #[.int .i64 0, .float .f64 0, .string ⟨#[]⟩, .int .i64 0] 33)
  obtain ⟨f1, f2⟩ := hf key
  have f3 : D.atKey (.string key) (.held Va.zero) = .held ((x.props key).getD Va.zero) := by
    rw [f2]; cases x.props key <;> rfl
  have hkey := key_lit (k := key) (by unfold maxLen; omega)
  generalize (x.props key).isSome = bo at *
  obtain ⟨y, hy⟩ : ∃ y, (x.props key).getD Va.zero = y := ⟨_, rfl⟩
  rw [hy] at f3 ⊢
  obtain ⟨kk, nn, tt, rr⟩ := y
  have hz := RV_v Va.zero
  clear B1 hob h hx hf hD hy f2
  go_enter Tryd.func20, Tryd.ntmps20
  go_wp2_with fail
  refine AT'.mono ?_
  rintro e w1 ⟨rfl, rfl⟩
  go_wp2_with (at_lookup; refine wpList_lookup_own_ok _ rfl _ _ 76 rfl 9 33 va_law Tryd.underlying76 _ (zero_va _) (.held Va.zero) [] hz p.m _ D rfl hD' _ _ rfl hkey ?_)
  intro v ps hv
  try rw [f3] at hv
  obtain rfl := RV_inv hv
  try rw [f1]
  simp only [Va.v, Va.cells]
  go_wp2_with fail
  refine bodyPost_ret (v := .tuple #[.agg #[.int .i64 kk, .float .f64 nn, .string ⟨tt.toArray⟩, .int .i64 rr], .bool bo]) (by simp [results, Tryd.results20, go_sem]) rfl ⟨rfl, ?_⟩
  repeat (first | exact Pur.refl _ | with_reducible refine Pur.setCell ?_ (Nat.le_refl _) _ | with_reducible refine Pur.alloc ?_ _)
end Go.Proofs.YtfophnmnehpenaaDoor
namespace Go.Proofs.YtfophnmnehpenaaDoor
open Go Go.RowKit
set_option linter.all false
theorem item_cell {w : World} {v : Value} {vs : List Va} (h : VRead w v vs) {n : Nat} {x : Va} (hx : vs[n]? = some x) : ∃ b o c, v = .slice (some ⟨b, o, none⟩) vs.length c ∧ b < w.heap.size ∧ ∀ (i : Nat) u, x.cells[i]? = some u → w.cell? ⟨b, o + (n * 4 + i), none⟩ = some u := by
  rcases h with ⟨rfl, rfl⟩ | ⟨b, o, c, rfl, hb, hc⟩
  · simp at hx
  · refine ⟨b, o, c, rfl, hb, fun i u hu => hc _ _ ?_⟩
    have hl := (List.getElem?_eq_some_iff.1 hx).1
    clear hc hb
    induction vs generalizing n with
    | nil => simp at hx
    | cons g vs ih =>
      cases n with
      | zero =>
        obtain rfl : g = x := by simpa using hx
        have hi := (List.getElem?_eq_some_iff.1 hu).1
        rw [List.flatMap_cons, Nat.zero_mul, Nat.zero_add, List.getElem?_append_left hi, hu]
      | succ n =>
        have := ih (n := n) (by simpa using hx) (by simp at hl; omega)
        have hl4 : g.cells.length = 4 := rfl
        rw [List.flatMap_cons, List.getElem?_append_right (by rw [hl4, Nat.succ_mul]; omega), hl4]
        rw [show (n + 1) * 4 + i - 4 = n * 4 + i by rw [Nat.succ_mul]; omega]
        exact this
theorem eqkey_no {l m : List UInt8} (h : ¬ l = m) : (l == m) = false := by simpa using h
set_option maxRecDepth 100000 in
set_option maxHeartbeats 4000000 in
theorem own_out (s : Hs) (i : Int) (x : Ob) (key : List UInt8) (n : Nat) (w : World) (h : HpAt w s) (hx : s.d.obj i = some x) (hk : x.kind = 2) (hkl : key.length ≤ 1000000) (hne : ¬ key = lenKey) (hix : index key = some n) (hn : x.items.length ≤ n) :
    Calls Tryd.prog 20 #[.pointer (some ⟨s.h, 0, none⟩), .int .i64 i, .string ⟨key.toArray⟩] w fun e w' => e = .returned (.tuple #[Va.zero.v, .bool false]) ∧ Pur w w' := by
  obtain ⟨p, hp, hob, -⟩ := h.find hx
  obtain ⟨a, c, hiv⟩ := row_shape hob.items
  have B := hob.own
  rw [hiv, hk] at B
  have B1 := bk_alloc B (.cells #[.int .i64 0, .float .f64 0, .string ⟨#[]⟩, .int .i64 0] 33)
  have k0 := bk_cell B1 0 _ rfl
  have AT' := at_any s i _ (h.pur ((Pur.refl w).alloc (.cells #[.int .i64 0, .float .f64 0, .string ⟨#[]⟩, .int .i64 0] 33)))
  rw [hp] at AT'
  have IX := fun w => index_any key w (by omega)
  rw [hix] at IX
  simp only [ix] at IX
  have q1 := eqkey_no hne
  unfold lenKey at q1 hne
  have hK7 : ∀ w2, Pur (w.alloc (.cells #[.int .i64 0, .float .f64 0, .string ⟨#[]⟩, .int .i64 0] 33)) w2 → w2.cell? ⟨p.o, 7, none⟩ = some (.slice a x.items.length c) := fun w2 hp2 => bk_cell (bk_pur B1 hp2) 7 _ rfl
  have hK6 : ∀ w2, Pur (w.alloc (.cells #[.int .i64 0, .float .f64 0, .string ⟨#[]⟩, .int .i64 0] 33)) w2 → w2.heap[w.heap.size]? = some (.cells #[.int .i64 0, .float .f64 0, .string ⟨#[]⟩, .int .i64 0] 33 (0, 0)) := fun w2 hp2 => bk_pur (bk_new _ _) hp2
  clear B B1 hob hiv h hx hk
  go_enter Tryd.func20, Tryd.ntmps20
  go_wp2_with fail
  refine AT'.mono ?_
  rintro e w1 ⟨rfl, rfl⟩
  go_wp2_with fail
  refine (IX _).mono ?_
  rintro e w2 ⟨rfl, h2⟩
  have k7 := hK7 _ h2
  have r0 := hK6 _ h2
  have c0 := bk_cell r0 0 _ rfl
  have c1 := bk_cell r0 1 _ rfl
  have c2 := bk_cell r0 2 _ rfl
  have c3 := bk_cell r0 3 _ rfl
  have f0 := bk_free r0 0
  have f1 := bk_free r0 1
  have f2 := bk_free r0 2
  have f3 := bk_free r0 3
  go_wp2_with fail
  refine bodyPost_ret (v := .tuple #[.agg #[.int .i64 0, .float .f64 0, .string ⟨#[]⟩, .int .i64 0], .bool false]) (by simp [results, Tryd.results20, go_sem, c0, c1, c2, c3]) rfl ⟨rfl, ?_⟩
  have hp2 := ((Pur.refl w).alloc (.cells #[.int .i64 0, .float .f64 0, .string ⟨#[]⟩, .int .i64 0] 33)).trans h2
  repeat (first | exact hp2 | with_reducible refine Pur.setCell ?_ (Nat.le_refl _) _)
end Go.Proofs.YtfophnmnehpenaaDoor
namespace Go.Proofs.YtfophnmnehpenaaDoor
open Go Go.RowKit
set_option linter.all false
set_option maxRecDepth 100000 in
set_option maxHeartbeats 4000000 in
theorem own_item (s : Hs) (i : Int) (x : Ob) (key : List UInt8) (n : Nat) (w : World) (h : HpAt w s) (hx : s.d.obj i = some x) (hk : x.kind = 2) (hkl : key.length ≤ 1000000) (hne : ¬ key = lenKey) (hix : index key = some n) (y : Va) (hy : x.items[n]? = some y) :
    Calls Tryd.prog 20 #[.pointer (some ⟨s.h, 0, none⟩), .int .i64 i, .string ⟨key.toArray⟩] w fun e w' => e = .returned (.tuple #[y.v, .bool true]) ∧ Pur w w' := by
  obtain ⟨p, hp, hob, -⟩ := h.find hx
  obtain ⟨b, o, c, hiv, hb, hcell⟩ := item_cell (VRead.of_own hob.items) hy
  have hlt : (n : Int) < x.items.length := by have := (List.getElem?_eq_some_iff.1 hy).1; omega
  have hn0 : (0 : Int) ≤ n := by omega
  obtain ⟨kk, nn, tt, rr⟩ := y
  have hI : ∀ w2, Pur (w.alloc (.cells #[.int .i64 0, .float .f64 0, .string ⟨#[]⟩, .int .i64 0] 33)) w2 → ∀ (j : Nat) u, (Va.mk kk nn tt rr).cells[j]? = some u → w2.cell? ⟨b, o + n * 4 + j, none⟩ = some u := fun w2 hp2 j u hu => by
    have := hcell j u hu
    rw [← Nat.add_assoc] at this
    exact ((((Pur.refl w).alloc _).trans hp2).cell (p := ⟨b, o + n * 4 + j, none⟩) hb).trans this
  have B := hob.own
  rw [hiv, hk] at B
  have B1 := bk_alloc B (.cells #[.int .i64 0, .float .f64 0, .string ⟨#[]⟩, .int .i64 0] 33)
  have k0 := bk_cell B1 0 _ rfl
  have AT' := at_any s i _ (h.pur ((Pur.refl w).alloc (.cells #[.int .i64 0, .float .f64 0, .string ⟨#[]⟩, .int .i64 0] 33)))
  rw [hp] at AT'
  have IX := fun w => index_any key w (by omega)
  rw [hix] at IX
  simp only [ix] at IX
  have q1 := eqkey_no hne
  unfold lenKey at q1 hne
  have hK7 : ∀ w2, Pur (w.alloc (.cells #[.int .i64 0, .float .f64 0, .string ⟨#[]⟩, .int .i64 0] 33)) w2 → w2.cell? ⟨p.o, 7, none⟩ = some (.slice (some ⟨b, o, none⟩) x.items.length c) := fun w2 hp2 => bk_cell (bk_pur B1 hp2) 7 _ rfl
  have hK6 : ∀ w2, Pur (w.alloc (.cells #[.int .i64 0, .float .f64 0, .string ⟨#[]⟩, .int .i64 0] 33)) w2 → w2.heap[w.heap.size]? = some (.cells #[.int .i64 0, .float .f64 0, .string ⟨#[]⟩, .int .i64 0] 33 (0, 0)) := fun w2 hp2 => bk_pur (bk_new _ _) hp2
  clear B B1 hob hiv h hx hk hcell hb hy
  go_enter Tryd.func20, Tryd.ntmps20
  go_wp2_with fail
  refine AT'.mono ?_
  rintro e w1 ⟨rfl, rfl⟩
  go_wp2_with fail
  refine (IX _).mono ?_
  rintro e w2 ⟨rfl, h2⟩
  have k7 := hK7 _ h2
  have r0 := hK6 _ h2
  have c0 := bk_cell r0 0 _ rfl
  have c1 := bk_cell r0 1 _ rfl
  have c2 := bk_cell r0 2 _ rfl
  have c3 := bk_cell r0 3 _ rfl
  have f0 := bk_free r0 0
  have f1 := bk_free r0 1
  have f2 := bk_free r0 2
  have f3 := bk_free r0 3
  have g0 := hI _ h2 0 _ rfl
  have g1 := hI _ h2 1 _ rfl
  have g2 := hI _ h2 2 _ rfl
  have g3 := hI _ h2 3 _ rfl
  rw [Nat.add_zero] at g0
  go_wp2_with fail
  refine bodyPost_ret (v := .tuple #[.agg #[.int .i64 kk, .float .f64 nn, .string ⟨tt.toArray⟩, .int .i64 rr], .bool true]) (by simp [results, Tryd.results20, go_sem, c0, c1, c2, c3]) rfl ⟨rfl, ?_⟩
  have hp2 := ((Pur.refl w).alloc (.cells #[.int .i64 0, .float .f64 0, .string ⟨#[]⟩, .int .i64 0] 33)).trans h2
  repeat (first | exact hp2 | with_reducible refine Pur.setCell ?_ (Nat.le_refl _) _)
end Go.Proofs.YtfophnmnehpenaaDoor
namespace Go.Proofs.YtfophnmnehpenaaDoor
open Go Go.RowKit
set_option linter.all false
set_option maxRecDepth 100000 in
set_option maxHeartbeats 4000000 in
theorem own_arr (s : Hs) (i : Int) (x : Ob) (key : List UInt8) (w : World) (h : HpAt w s) (hx : s.d.obj i = some x) (hk : x.kind = 2) (hkl : key.length ≤ 1000000) (hne : ¬ key = lenKey) (hix : index key = none) :
    Calls Tryd.prog 20 #[.pointer (some ⟨s.h, 0, none⟩), .int .i64 i, .string ⟨key.toArray⟩] w fun e w' => e = .returned (.tuple #[((x.props key).getD Va.zero).v, .bool (x.props key).isSome]) ∧ Pur w w' := by
  obtain ⟨p, hp, hob, -⟩ := h.find hx
  have B := hob.own
  rw [hk] at B
  have B1 := bk_alloc B (.cells #[.int .i64 0, .float .f64 0, .string ⟨#[]⟩, .int .i64 0] 33)
  have k0 := bk_cell B1 0 _ rfl
  have AT' := at_any s i _ (h.pur ((Pur.refl w).alloc (.cells #[.int .i64 0, .float .f64 0, .string ⟨#[]⟩, .int .i64 0] 33)))
  rw [hp] at AT'
  have IX := fun w => index_any key w (by omega)
  rw [hix] at IX
  simp only [ix] at IX
  have q1 := eqkey_no hne
  unfold lenKey at q1 hne
  have hK6 : ∀ w2, Pur (w.alloc (.cells #[.int .i64 0, .float .f64 0, .string ⟨#[]⟩, .int .i64 0] 33)) w2 → w2.cell? ⟨p.o, 6, none⟩ = some (.map (some p.m)) := fun w2 hp2 => bk_cell (bk_pur B1 hp2) 6 _ rfl
  have hR : ∀ w2, Pur (w.alloc (.cells #[.int .i64 0, .float .f64 0, .string ⟨#[]⟩, .int .i64 0] 33)) w2 → w2.heap[w.heap.size]? = some (.cells #[.int .i64 0, .float .f64 0, .string ⟨#[]⟩, .int .i64 0] 33 (0, 0)) := fun w2 hp2 => bk_pur (bk_new _ _) hp2
  obtain ⟨D, hD, hf⟩ := hob.props
  have hD' : ∀ w2, Pur (w.alloc (.cells #[.int .i64 0, .float .f64 0, .string ⟨#[]⟩, .int .i64 0] 33)) w2 → w2.ownsMap Tryd.prog 9 RV p.m x.keys.length D := fun w2 hp2 => World.ownsMap_same hD ((((Pur.refl w).alloc _).trans hp2).block _ hD.lt)
  obtain ⟨f1, f2⟩ := hf key
  have f3 : D.atKey (.string key) (.held Va.zero) = .held ((x.props key).getD Va.zero) := by
    rw [f2]; cases x.props key <;> rfl
  have hkey := key_lit (k := key) (by unfold maxLen; omega)
  generalize (x.props key).isSome = bo at *
  obtain ⟨y, hy⟩ : ∃ y, (x.props key).getD Va.zero = y := ⟨_, rfl⟩
  rw [hy] at f3 ⊢
  obtain ⟨kk, nn, tt, rr⟩ := y
  have hz := RV_v Va.zero
  clear B B1 hob h hx hf hD hy f2 hk
  go_enter Tryd.func20, Tryd.ntmps20
  go_wp2_with fail
  refine AT'.mono ?_
  rintro e w1 ⟨rfl, rfl⟩
  go_wp2_with fail
  refine (IX _).mono ?_
  rintro e w2 ⟨rfl, h2⟩
  have k6 := hK6 _ h2
  have r0 := hR _ h2
  have m2 := hD' _ h2
  have b1 := bk_alloc r0 (.cells #[.int .i64 kk, .float .f64 nn, .string ⟨tt.toArray⟩, .int .i64 rr] 33)
  have j0 := bk_free b1 0
  have j1 := bk_free b1 1
  have j2 := bk_free b1 2
  have j3 := bk_free b1 3
  have c0 := bk_cell b1 0 _ rfl
  have c1 := bk_cell b1 1 _ rfl
  have c2 := bk_cell b1 2 _ rfl
  have c3 := bk_cell b1 3 _ rfl
  go_wp2_with (at_lookup; refine wpList_lookup_own_ok _ rfl _ _ 76 rfl 9 33 va_law Tryd.underlying76 _ (zero_va _) (.held Va.zero) [] hz p.m _ D rfl m2 _ _ rfl hkey ?_)
  intro v ps hv
  try rw [f3] at hv
  obtain rfl := RV_inv hv
  try rw [f1]
  simp only [Va.v, Va.cells]
  go_wp2_with fail
  refine bodyPost_ret (v := .tuple #[.agg #[.int .i64 kk, .float .f64 nn, .string ⟨tt.toArray⟩, .int .i64 rr], .bool bo]) (by simp [results, Tryd.results20, go_sem, c0, c1, c2, c3]) rfl ⟨rfl, ?_⟩
  have hp2 := ((Pur.refl w).alloc (.cells #[.int .i64 0, .float .f64 0, .string ⟨#[]⟩, .int .i64 0] 33)).trans h2
  repeat (first | exact hp2 | with_reducible refine Pur.setCell ?_ (Nat.le_refl _) _ | with_reducible refine Pur.alloc ?_ _)
end Go.Proofs.YtfophnmnehpenaaDoor
namespace Go.Proofs.YtfophnmnehpenaaDoor
open Go Go.RowKit
set_option linter.all false
theorem own_any (s : Hs) (i : Int) (key : List UInt8) (w : World) (h : HpAt w s) {G : Nat} (hok : s.d.Ok G) (hkl : key.length ≤ 1000000) :
    Calls Tryd.prog 20 #[.pointer (some ⟨s.h, 0, none⟩), .int .i64 i, .string ⟨key.toArray⟩] w fun e w' => e = .returned (.tuple #[(s.d.own i key).1.v, .bool (s.d.own i key).2]) ∧ Pur w w' := by
  unfold Hd.own
  rcases hx : s.d.obj i with _ | x
  · exact own_none s i key w h hx
  · have hb := hok.mem (Hd.obj_mem hx).1
    show Calls _ _ _ _ fun e w' => e = .returned (.tuple #[(x.own key).1.v, .bool (x.own key).2]) ∧ Pur w w'
    unfold Ob.own
    by_cases hk : x.kind = 2
    · by_cases hl : key = lenKey
      · rw [if_pos ⟨hk, hl⟩]
        subst hl
        exact own_len s i x w h hx hk hb.2
      · rw [if_neg (fun e => hl e.2), if_pos hk]
        rcases hi : index key with _ | n
        · exact own_arr s i x key w h hx hk hkl hl hi
        · by_cases hn : n < x.items.length
          · have := own_item s i x key n w h hx hk hkl hl hi _ (List.getElem?_eq_getElem hn)
            simp only [List.getElem?_eq_getElem hn, Option.getD_some, decide_eq_true hn]
            exact this
          · have := own_out s i x key n w h hx hk hkl hl hi (by omega)
            simp only [List.getElem?_eq_none (Nat.le_of_not_lt hn), Option.getD_none, decide_eq_false hn]
            exact this
    · rw [if_neg (fun e => hk e.1), if_neg hk]
      exact own_prop s i x key w h hx hk hkl
theorem own_pur (s : Hs) (i : Int) (key : List UInt8) (w : World) (h : HpAt w s) {G : Nat} (hok : s.d.Ok G) (hkl : key.length ≤ 1000000) {R : Va × Bool} (hR : s.d.own i key = R) :
    Calls Tryd.prog 20 #[.pointer (some ⟨s.h, 0, none⟩), .int .i64 i, .string ⟨key.toArray⟩] w fun e w' => e = .returned (.tuple #[R.1.v, .bool R.2]) ∧ Pur w w' := hR ▸ own_any s i key w h hok hkl
end Go.Proofs.YtfophnmnehpenaaDoor
namespace Go.Proofs.YtfophnmnehpenaaDoor
open Go Go.RowKit
set_option linter.all false
theorem holder_none (d : Hd) (key : List UInt8) (m : Nat) (i : Int) (h : d.obj i = none) : d.holder key m i = -1 := by
  cases m with
  | zero => rfl
  | succ m => unfold Hd.holder; rw [h]
theorem holder_here (d : Hd) (key : List UInt8) (m : Nat) (i : Int) (x : Ob) (h : d.obj i = some x) (ho : (x.own key).2 = true) : d.holder key (m + 1) i = i := by
  unfold Hd.holder; rw [h]; simp [ho]
theorem holder_up (d : Hd) (key : List UInt8) (m : Nat) (i : Int) (x : Ob) (h : d.obj i = some x) (ho : (x.own key).2 = false) : d.holder key (m + 1) i = d.holder key m x.proto := by
  rw [Hd.holder, h]; simp [ho]
theorem own_at {d : Hd} {i : Int} {x : Ob} (h : d.obj i = some x) (key : List UInt8) : d.own i key = x.own key := by unfold Hd.own; rw [h]
set_option maxRecDepth 100000 in
set_option maxHeartbeats 4000000 in
theorem holder_any (s : Hs) (i : Int) (key : List UInt8) (w : World) (h : HpAt w s) {G : Nat} (hok : s.d.Ok G) (hkl : key.length ≤ 1000000) :
    Calls Tryd.prog 44 #[.pointer (some ⟨s.h, 0, none⟩), .int .i64 i, .string ⟨key.toArray⟩] w fun e w' => e = .returned (.int .i64 (s.d.holder key (s.d.xs.length + 1) i)) ∧ Pur w w' := by
  have hst := h.short
  have hlen : s.d.xs.length = s.ps.length := h.len
  obtain ⟨H, hH⟩ : ∃ H, s.d.holder key (s.d.xs.length + 1) i = H := ⟨_, rfl⟩
  rw [hH]
  have HH := Lib.hid hH
  clear hH
  go_enter Tryd.func44, Tryd.ntmps44
  go_wp2
  go_loopw [1] (fun v wr => ∃ (j : Int) (m : Nat), v = .int .i64 j ∧ Pur w wr ∧ Hid ((∀ x, s.d.obj j = some x → j < m) ∧ s.d.holder key m j = H)) (fun v _ => (intOf v + 1).toNat)
  case atStart => exact ⟨i, s.d.xs.length + 1, rfl, Pur.refl w, Lib.hid ⟨fun x hx => by have := (Hd.obj_mem hx).2.2.1; omega, HH.out⟩⟩
  case round =>
    obtain ⟨j, m, rfl, hpr, HR⟩ := hrel
    have hr := h.pur hpr
    have AT := at_any s j wr hr
    rcases hx : s.d.obj j with _ | x
    · rw [(at_none h j).2 hx] at AT
      have e := holder_none s.d key m j hx
      rw [HR.out.2] at e
      subst e
      clear HR HH h hr hlen hst
      go_wp2_with fail
      go_wp2_with fail
      refine (AT).mono ?_
      rintro e w2 ⟨rfl, rfl⟩
      go_wp2
      go_ret
      exact ⟨rfl, hpr⟩
    · obtain ⟨-, j0, j1, j2⟩ := Hd.obj_mem hx
      obtain ⟨p, hp, -, -⟩ := h.find hx
      rw [hp] at AT
      have j3 : j < (s.ps.length : Int) := by omega
      have OW := own_pur s j key wr hr hok hkl (own_at hx key)
      have hpr2 : x.proto < j := by
        have := (hok.at hx).1
        omega
      obtain ⟨m, rfl⟩ : ∃ m', m = m' + 1 := ⟨m - 1, by have := HR.out.1 x hx; omega⟩
      have hm := HR.out.1 x hx
      have Q : ∀ wx, Pur wr wx → ∃ g c, wx.cell? ⟨s.h, 0, none⟩ = some (.slice (some ⟨g, 0, none⟩) s.ps.length c) ∧ wx.cell? ⟨g, j.toNat, none⟩ = some (.pointer (some ⟨p.o, 0, none⟩)) ∧ wx.cell? ⟨p.o, 1, none⟩ = some (.int .i64 x.proto) := fun wx hp2 => by
        have hw := hr.pur hp2
        obtain ⟨a, c, hov, hrow⟩ := hw.rows
        obtain ⟨p', hp', hob, -⟩ := hw.find hx
        rw [hp] at hp'
        have ho : p.o = p'.o := by simpa using hp'
        have hps : s.ps[j.toNat]? = some p' ∨ True := .inr trivial
        have h3 : j.toNat < s.ps.length := by omega
        obtain ⟨g, ha, hg⟩ := hrow j.toNat s.ps[j.toNat] (List.getElem?_eq_getElem h3)
        have hpp : s.ps[j.toNat].o = p.o := by
          unfold Hs.at at hp
          rw [if_neg (by omega), List.getElem?_eq_getElem h3] at hp
          simpa using hp
        rw [hpp] at hg
        refine ⟨g, c, ?_, hg, ?_⟩
        · rw [hw.cell0, hov, ha]
        · rw [ho]; exact bk_cell hob.own 1 _ rfl
      have hpro := (hok.at hx).1
      rcases hb : (x.own key).2 with _ | _
      · have e := holder_up s.d key m j x hx hb
        rw [HR.out.2] at e
        have HE := Lib.hid e
        have hnew : ∀ y, s.d.obj x.proto = some y → x.proto < m := fun _ _ => by omega
        have HN := Lib.hid hnew
        rw [hb] at OW
        generalize (x.own key).1 = y at OW
        obtain ⟨kk, nn, tt, rr⟩ := y
        simp only [Va.v, Va.cells] at OW
        clear HR HH e hnew hpro h hr hlen hx hb hp hm j2
        go_wp2_with fail
        go_wp2_with fail
        refine (AT).mono ?_
        rintro e w1 ⟨rfl, rfl⟩
        go_wp2_with fail
        go_wp2_with fail
        refine (OW).mono ?_
        rintro e w2 ⟨rfl, hp2⟩
        obtain ⟨g, c, q0, q1, q2⟩ := Q (w2.alloc (.cells #[.int .i64 kk, .float .f64 nn, .string ⟨tt.toArray⟩, .int .i64 rr] 33)) (hp2.alloc _)
        clear Q OW AT
        go_wp2
        go_roundw
        case rel => exact ⟨x.proto, m, rfl, (hpr.trans hp2).alloc _, Lib.hid ⟨HN.out, HE.out.symm⟩⟩
        case measure => simp [intOf]; omega
      · have e := holder_here s.d key m j x hx hb
        rw [HR.out.2] at e
        subst e
        rw [hb] at OW
        generalize (x.own key).1 = y at OW
        obtain ⟨kk, nn, tt, rr⟩ := y
        simp only [Va.v, Va.cells] at OW
        clear HR HH hpro h hr hlen hx hb hp hm j2 Q
        go_wp2_with fail
        go_wp2_with fail
        refine (AT).mono ?_
        rintro e w1 ⟨rfl, rfl⟩
        go_wp2_with fail
        go_wp2_with fail
        refine (OW).mono ?_
        rintro e w2 ⟨rfl, hp2⟩
        go_wp2
        go_ret
        exact ⟨rfl, (hpr.trans hp2).alloc _⟩
end Go.Proofs.YtfophnmnehpenaaDoor
namespace Go.Proofs.YtfophnmnehpenaaDoor
open Go Go.RowKit
set_option linter.all false
set_option maxRecDepth 100000 in
set_option maxHeartbeats 4000000 in
theorem get_any (s : Hs) (i : Int) (key : List UInt8) (w : World) (h : HpAt w s) {G : Nat} (hok : s.d.Ok G) (hkl : key.length ≤ 1000000) :
    Calls Tryd.prog 22 #[.pointer (some ⟨s.h, 0, none⟩), .int .i64 i, .string ⟨key.toArray⟩] w fun e w' => e = .returned (.tuple #[(s.d.get i key).1.v, .bool (s.d.get i key).2]) ∧ Pur w w' := by
  have p0 : Pur w (w.alloc (.cells #[.int .i64 0, .float .f64 0, .string ⟨#[]⟩, .int .i64 0] 33)) := (Pur.refl w).alloc _
  have HO := holder_any s i key _ (h.pur p0) hok hkl
  have OW := fun w2 (hp : Pur (w.alloc (.cells #[.int .i64 0, .float .f64 0, .string ⟨#[]⟩, .int .i64 0] 33)) w2) => own_any s (s.d.holder key (s.d.xs.length + 1) i) key w2 (h.pur (p0.trans hp)) hok hkl
  unfold Hd.get
  generalize s.d.holder key (s.d.xs.length + 1) i = j at *
  generalize (s.d.own j key).2 = b at *
  generalize (s.d.own j key).1 = y at *
  obtain ⟨kk, nn, tt, rr⟩ := y
  simp only [Va.v, Va.cells] at *
  have hR : ∀ w2, Pur (w.alloc (.cells #[.int .i64 0, .float .f64 0, .string ⟨#[]⟩, .int .i64 0] 33)) w2 → w2.heap[w.heap.size]? = some (.cells #[.int .i64 0, .float .f64 0, .string ⟨#[]⟩, .int .i64 0] 33 (0, 0)) := fun w2 hp2 => bk_pur (bk_new _ _) hp2
  clear h hok
  go_enter Tryd.func22, Tryd.ntmps22
  go_wp2_with fail
  go_wp2_with fail
  refine (HO).mono ?_
  rintro e w1 ⟨rfl, h1⟩
  go_wp2_with fail
  go_wp2_with fail
  refine ((OW _ h1)).mono ?_
  rintro e w2 ⟨rfl, h2⟩
  have h3 := h1.trans h2
  have r0 := hR _ h3
  have c0 := bk_cell r0 0 _ rfl
  have c1 := bk_cell r0 1 _ rfl
  have c2 := bk_cell r0 2 _ rfl
  have c3 := bk_cell r0 3 _ rfl
  have f0 := bk_free r0 0
  have f1 := bk_free r0 1
  have f2 := bk_free r0 2
  have f3 := bk_free r0 3
  go_wp2_with fail
  refine bodyPost_ret (v := .tuple #[.agg #[.int .i64 kk, .float .f64 nn, .string ⟨tt.toArray⟩, .int .i64 rr], .bool b]) (by simp [results, Tryd.results22, go_sem, c0, c1, c2, c3]) rfl ⟨rfl, ?_⟩
  have hp2 := p0.trans h3
  repeat (first | exact hp2 | with_reducible refine Pur.setCell ?_ (Nat.le_refl _) _ | with_reducible refine Pur.alloc ?_ _)
end Go.Proofs.YtfophnmnehpenaaDoor
