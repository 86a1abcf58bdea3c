/- Layer 8: (*Heap).Own: an array's item, or its property. -/
import Derived.Test.YtfophnmnehpenaaDoorHm10
namespace Go.Proofs.YtfophnmnehpenaaDoor
open Go Go.RowKit
set_option linter.all false
theorem item_cell {w : World} {v : Value} {vs : List Va} (h : VRead w v vs) {n : Nat} {x : Va} (hx : vs[n]? = some x) : ∃ b o c, v = .slice (some ⟨b, o, none⟩) vs.length c ∧ b < w.heap.size ∧ ∀ (i : Nat) u, x.cells[i]? = some u → w.cell? ⟨b, o + (n * 4 + i), none⟩ = some u := by
  rcases h with ⟨rfl, rfl⟩ | ⟨b, o, c, rfl, hb, hc⟩
  · simp at hx
  · refine ⟨b, o, c, rfl, hb, fun i u hu => hc _ _ ?_⟩
    have hl := (List.getElem?_eq_some_iff.1 hx).1
    clear hc hb
    induction vs generalizing n with
    | nil => simp at hx
    | cons g vs ih =>
      cases n with
      | zero =>
        obtain rfl : g = x := by simpa using hx
        have hi := (List.getElem?_eq_some_iff.1 hu).1
        rw [List.flatMap_cons, Nat.zero_mul, Nat.zero_add, List.getElem?_append_left hi, hu]
      | succ n =>
        have := ih (n := n) (by simpa using hx) (by simp at hl; omega)
        have hl4 : g.cells.length = 4 := rfl
        rw [List.flatMap_cons, List.getElem?_append_right (by rw [hl4, Nat.succ_mul]; omega), hl4]
        rw [show (n + 1) * 4 + i - 4 = n * 4 + i by rw [Nat.succ_mul]; omega]
        exact this
theorem eqkey_no {l m : List UInt8} (h : ¬ l = m) : (l == m) = false := by simpa using h
set_option maxRecDepth 100000 in
set_option maxHeartbeats 4000000 in
theorem own_out (s : Hs) (i : Int) (x : Ob) (key : List UInt8) (n : Nat) (w : World) (h : HpAt w s) (hx : s.d.obj i = some x) (hk : x.kind = 2) (hkl : key.length ≤ 1000000) (hne : ¬ key = lenKey) (hix : index key = some n) (hn : x.items.length ≤ n) :
    Calls Tryd.prog 20 #[.pointer (some ⟨s.h, 0, none⟩), .int .i64 i, .string ⟨key.toArray⟩] w fun e w' => e = .returned (.tuple #[Va.zero.v, .bool false]) ∧ Pur w w' := by
  obtain ⟨p, hp, hob, -⟩ := h.find hx
  obtain ⟨a, c, hiv⟩ := row_shape hob.items
  have B := hob.own
  rw [hiv, hk] at B
  have B1 := bk_alloc B (.cells #[.int .i64 0, .float .f64 0, .string ⟨#[]⟩, .int .i64 0] 33)
  have k0 := bk_cell B1 0 _ rfl
  have AT' := at_any s i _ (h.pur ((Pur.refl w).alloc (.cells #[.int .i64 0, .float .f64 0, .string ⟨#[]⟩, .int .i64 0] 33)))
  rw [hp] at AT'
  have IX := fun w => index_any key w (by omega)
  rw [hix] at IX
  simp only [ix] at IX
  have q1 := eqkey_no hne
  unfold lenKey at q1 hne
  have hK7 : ∀ w2, Pur (w.alloc (.cells #[.int .i64 0, .float .f64 0, .string ⟨#[]⟩, .int .i64 0] 33)) w2 → w2.cell? ⟨p.o, 7, none⟩ = some (.slice a x.items.length c) := fun w2 hp2 => bk_cell (bk_pur B1 hp2) 7 _ rfl
  have hK6 : ∀ w2, Pur (w.alloc (.cells #[.int .i64 0, .float .f64 0, .string ⟨#[]⟩, .int .i64 0] 33)) w2 → w2.heap[w.heap.size]? = some (.cells #[.int .i64 0, .float .f64 0, .string ⟨#[]⟩, .int .i64 0] 33 (0, 0)) := fun w2 hp2 => bk_pur (bk_new _ _) hp2
  clear B B1 hob hiv h hx hk
  go_enter Tryd.func20, Tryd.ntmps20
  go_wp2_with fail
  refine AT'.mono ?_
  rintro e w1 ⟨rfl, rfl⟩
  go_wp2_with fail
  refine (IX _).mono ?_
  rintro e w2 ⟨rfl, h2⟩
  have k7 := hK7 _ h2
  have r0 := hK6 _ h2
  have c0 := bk_cell r0 0 _ rfl
  have c1 := bk_cell r0 1 _ rfl
  have c2 := bk_cell r0 2 _ rfl
  have c3 := bk_cell r0 3 _ rfl
  have f0 := bk_free r0 0
  have f1 := bk_free r0 1
  have f2 := bk_free r0 2
  have f3 := bk_free r0 3
  go_wp2_with fail
  refine bodyPost_ret (v := .tuple #[.agg #[.int .i64 0, .float .f64 0, .string ⟨#[]⟩, .int .i64 0], .bool false]) (by simp [results, Tryd.results20, go_sem, c0, c1, c2, c3]) rfl ⟨rfl, ?_⟩
  have hp2 := ((Pur.refl w).alloc (.cells #[.int .i64 0, .float .f64 0, .string ⟨#[]⟩, .int .i64 0] 33)).trans h2
  repeat (first | exact hp2 | with_reducible refine Pur.setCell ?_ (Nat.le_refl _) _)
end Go.Proofs.YtfophnmnehpenaaDoor
