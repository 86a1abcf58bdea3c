/- Layer 8: (*Heap).Own: an array's item. -/
import Derived.Test.YtfophnmnehpenaaDoorHm11
namespace Go.Proofs.YtfophnmnehpenaaDoor
open Go Go.RowKit
set_option linter.all false
set_option maxRecDepth 100000 in
set_option maxHeartbeats 4000000 in
theorem own_item (s : Hs) (i : Int) (x : Ob) (key : List UInt8) (n : Nat) (w : World) (h : HpAt w s) (hx : s.d.obj i = some x) (hk : x.kind = 2) (hkl : key.length ≤ 1000000) (hne : ¬ key = lenKey) (hix : index key = some n) (y : Va) (hy : x.items[n]? = some y) :
    Calls Tryd.prog 20 #[.pointer (some ⟨s.h, 0, none⟩), .int .i64 i, .string ⟨key.toArray⟩] w fun e w' => e = .returned (.tuple #[y.v, .bool true]) ∧ Pur w w' := by
  obtain ⟨p, hp, hob, -⟩ := h.find hx
  obtain ⟨b, o, c, hiv, hb, hcell⟩ := item_cell (VRead.of_own hob.items) hy
  have hlt : (n : Int) < x.items.length := by have := (List.getElem?_eq_some_iff.1 hy).1; omega
  have hn0 : (0 : Int) ≤ n := by omega
  obtain ⟨kk, nn, tt, rr⟩ := y
  have hI : ∀ w2, Pur (w.alloc (.cells #[.int .i64 0, .float .f64 0, .string ⟨#[]⟩, .int .i64 0] 33)) w2 → ∀ (j : Nat) u, (Va.mk kk nn tt rr).cells[j]? = some u → w2.cell? ⟨b, o + n * 4 + j, none⟩ = some u := fun w2 hp2 j u hu => by
    have := hcell j u hu
    rw [← Nat.add_assoc] at this
    exact ((((Pur.refl w).alloc _).trans hp2).cell (p := ⟨b, o + n * 4 + j, none⟩) hb).trans this
  have B := hob.own
  rw [hiv, hk] at B
  have B1 := bk_alloc B (.cells #[.int .i64 0, .float .f64 0, .string ⟨#[]⟩, .int .i64 0] 33)
  have k0 := bk_cell B1 0 _ rfl
  have AT' := at_any s i _ (h.pur ((Pur.refl w).alloc (.cells #[.int .i64 0, .float .f64 0, .string ⟨#[]⟩, .int .i64 0] 33)))
  rw [hp] at AT'
  have IX := fun w => index_any key w (by omega)
  rw [hix] at IX
  simp only [ix] at IX
  have q1 := eqkey_no hne
  unfold lenKey at q1 hne
  have hK7 : ∀ w2, Pur (w.alloc (.cells #[.int .i64 0, .float .f64 0, .string ⟨#[]⟩, .int .i64 0] 33)) w2 → w2.cell? ⟨p.o, 7, none⟩ = some (.slice (some ⟨b, o, none⟩) x.items.length c) := fun w2 hp2 => bk_cell (bk_pur B1 hp2) 7 _ rfl
  have hK6 : ∀ w2, Pur (w.alloc (.cells #[.int .i64 0, .float .f64 0, .string ⟨#[]⟩, .int .i64 0] 33)) w2 → w2.heap[w.heap.size]? = some (.cells #[.int .i64 0, .float .f64 0, .string ⟨#[]⟩, .int .i64 0] 33 (0, 0)) := fun w2 hp2 => bk_pur (bk_new _ _) hp2
  clear B B1 hob hiv h hx hk hcell hb hy
  go_enter Tryd.func20, Tryd.ntmps20
  go_wp2_with fail
  refine AT'.mono ?_
  rintro e w1 ⟨rfl, rfl⟩
  go_wp2_with fail
  refine (IX _).mono ?_
  rintro e w2 ⟨rfl, h2⟩
  have k7 := hK7 _ h2
  have r0 := hK6 _ h2
  have c0 := bk_cell r0 0 _ rfl
  have c1 := bk_cell r0 1 _ rfl
  have c2 := bk_cell r0 2 _ rfl
  have c3 := bk_cell r0 3 _ rfl
  have f0 := bk_free r0 0
  have f1 := bk_free r0 1
  have f2 := bk_free r0 2
  have f3 := bk_free r0 3
  have g0 := hI _ h2 0 _ rfl
  have g1 := hI _ h2 1 _ rfl
  have g2 := hI _ h2 2 _ rfl
  have g3 := hI _ h2 3 _ rfl
  rw [Nat.add_zero] at g0
  go_wp2_with fail
  refine bodyPost_ret (v := .tuple #[.agg #[.int .i64 kk, .float .f64 nn, .string ⟨tt.toArray⟩, .int .i64 rr], .bool true]) (by simp [results, Tryd.results20, go_sem, c0, c1, c2, c3]) rfl ⟨rfl, ?_⟩
  have hp2 := ((Pur.refl w).alloc (.cells #[.int .i64 0, .float .f64 0, .string ⟨#[]⟩, .int .i64 0] 33)).trans h2
  repeat (first | exact hp2 | with_reducible refine Pur.setCell ?_ (Nat.le_refl _) _)
end Go.Proofs.YtfophnmnehpenaaDoor
