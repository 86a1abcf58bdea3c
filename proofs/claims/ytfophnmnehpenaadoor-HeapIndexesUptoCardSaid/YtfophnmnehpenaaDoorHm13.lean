/- Layer 8: (*Heap).Own: an array's property. -/
import Derived.Test.YtfophnmnehpenaaDoorHm12
namespace Go.Proofs.YtfophnmnehpenaaDoor
open Go Go.RowKit
set_option linter.all false
set_option maxRecDepth 100000 in
set_option maxHeartbeats 4000000 in
theorem own_arr (s : Hs) (i : Int) (x : Ob) (key : List UInt8) (w : World) (h : HpAt w s) (hx : s.d.obj i = some x) (hk : x.kind = 2) (hkl : key.length ≤ 1000000) (hne : ¬ key = lenKey) (hix : index key = none) :
    Calls Tryd.prog 20 #[.pointer (some ⟨s.h, 0, none⟩), .int .i64 i, .string ⟨key.toArray⟩] w fun e w' => e = .returned (.tuple #[((x.props key).getD Va.zero).v, .bool (x.props key).isSome]) ∧ Pur w w' := by
  obtain ⟨p, hp, hob, -⟩ := h.find hx
  have B := hob.own
  rw [hk] at B
  have B1 := bk_alloc B (.cells #[.int .i64 0, .float .f64 0, .string ⟨#[]⟩, .int .i64 0] 33)
  have k0 := bk_cell B1 0 _ rfl
  have AT' := at_any s i _ (h.pur ((Pur.refl w).alloc (.cells #[.int .i64 0, .float .f64 0, .string ⟨#[]⟩, .int .i64 0] 33)))
  rw [hp] at AT'
  have IX := fun w => index_any key w (by omega)
  rw [hix] at IX
  simp only [ix] at IX
  have q1 := eqkey_no hne
  unfold lenKey at q1 hne
  have hK6 : ∀ w2, Pur (w.alloc (.cells #[.int .i64 0, .float .f64 0, .string ⟨#[]⟩, .int .i64 0] 33)) w2 → w2.cell? ⟨p.o, 6, none⟩ = some (.map (some p.m)) := fun w2 hp2 => bk_cell (bk_pur B1 hp2) 6 _ rfl
  have hR : ∀ w2, Pur (w.alloc (.cells #[.int .i64 0, .float .f64 0, .string ⟨#[]⟩, .int .i64 0] 33)) w2 → w2.heap[w.heap.size]? = some (.cells #[.int .i64 0, .float .f64 0, .string ⟨#[]⟩, .int .i64 0] 33 (0, 0)) := fun w2 hp2 => bk_pur (bk_new _ _) hp2
  obtain ⟨D, hD, hf⟩ := hob.props
  have hD' : ∀ w2, Pur (w.alloc (.cells #[.int .i64 0, .float .f64 0, .string ⟨#[]⟩, .int .i64 0] 33)) w2 → w2.ownsMap Tryd.prog 9 RV p.m x.keys.length D := fun w2 hp2 => World.ownsMap_same hD ((((Pur.refl w).alloc _).trans hp2).block _ hD.lt)
  obtain ⟨f1, f2⟩ := hf key
  have f3 : D.atKey (.string key) (.held Va.zero) = .held ((x.props key).getD Va.zero) := by
    rw [f2]; cases x.props key <;> rfl
  have hkey := key_lit (k := key) (by unfold maxLen; omega)
  generalize (x.props key).isSome = bo at *
  obtain ⟨y, hy⟩ : ∃ y, (x.props key).getD Va.zero = y := ⟨_, rfl⟩
  rw [hy] at f3 ⊢
  obtain ⟨kk, nn, tt, rr⟩ := y
  have hz := RV_v Va.zero
  clear B B1 hob h hx hf hD hy f2 hk
  go_enter Tryd.func20, Tryd.ntmps20
  go_wp2_with fail
  refine AT'.mono ?_
  rintro e w1 ⟨rfl, rfl⟩
  go_wp2_with fail
  refine (IX _).mono ?_
  rintro e w2 ⟨rfl, h2⟩
  have k6 := hK6 _ h2
  have r0 := hR _ h2
  have m2 := hD' _ h2
  have b1 := bk_alloc r0 (.cells #[.int .i64 kk, .float .f64 nn, .string ⟨tt.toArray⟩, .int .i64 rr] 33)
  have j0 := bk_free b1 0
  have j1 := bk_free b1 1
  have j2 := bk_free b1 2
  have j3 := bk_free b1 3
  have c0 := bk_cell b1 0 _ rfl
  have c1 := bk_cell b1 1 _ rfl
  have c2 := bk_cell b1 2 _ rfl
  have c3 := bk_cell b1 3 _ rfl
  go_wp2_with (at_lookup; refine wpList_lookup_own_ok _ rfl _ _ 76 rfl 9 33 va_law Tryd.underlying76 _ (zero_va _) (.held Va.zero) [] hz p.m _ D rfl m2 _ _ rfl hkey ?_)
  intro v ps hv
  try rw [f3] at hv
  obtain rfl := RV_inv hv
  try rw [f1]
  simp only [Va.v, Va.cells]
  go_wp2_with fail
  refine bodyPost_ret (v := .tuple #[.agg #[.int .i64 kk, .float .f64 nn, .string ⟨tt.toArray⟩, .int .i64 rr], .bool bo]) (by simp [results, Tryd.results20, go_sem, c0, c1, c2, c3]) rfl ⟨rfl, ?_⟩
  have hp2 := ((Pur.refl w).alloc (.cells #[.int .i64 0, .float .f64 0, .string ⟨#[]⟩, .int .i64 0] 33)).trans h2
  repeat (first | exact hp2 | with_reducible refine Pur.setCell ?_ (Nat.le_refl _) _ | with_reducible refine Pur.alloc ?_ _)
end Go.Proofs.YtfophnmnehpenaaDoor
