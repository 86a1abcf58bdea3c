/- Layer 8: (*Heap).Get. -/
import Derived.Test.YtfophnmnehpenaaDoorHm15
namespace Go.Proofs.YtfophnmnehpenaaDoor
open Go Go.RowKit
set_option linter.all false
set_option maxRecDepth 100000 in
set_option maxHeartbeats 4000000 in
theorem get_any (s : Hs) (i : Int) (key : List UInt8) (w : World) (h : HpAt w s) {G : Nat} (hok : s.d.Ok G) (hkl : key.length ≤ 1000000) :
    Calls Tryd.prog 22 #[.pointer (some ⟨s.h, 0, none⟩), .int .i64 i, .string ⟨key.toArray⟩] w fun e w' => e = .returned (.tuple #[(s.d.get i key).1.v, .bool (s.d.get i key).2]) ∧ Pur w w' := by
  have p0 : Pur w (w.alloc (.cells #[.int .i64 0, .float .f64 0, .string ⟨#[]⟩, .int .i64 0] 33)) := (Pur.refl w).alloc _
  have HO := holder_any s i key _ (h.pur p0) hok hkl
  have OW := fun w2 (hp : Pur (w.alloc (.cells #[.int .i64 0, .float .f64 0, .string ⟨#[]⟩, .int .i64 0] 33)) w2) => own_any s (s.d.holder key (s.d.xs.length + 1) i) key w2 (h.pur (p0.trans hp)) hok hkl
  unfold Hd.get
  generalize s.d.holder key (s.d.xs.length + 1) i = j at *
  generalize (s.d.own j key).2 = b at *
  generalize (s.d.own j key).1 = y at *
  obtain ⟨kk, nn, tt, rr⟩ := y
  simp only [Va.v, Va.cells] at *
  have hR : ∀ w2, Pur (w.alloc (.cells #[.int .i64 0, .float .f64 0, .string ⟨#[]⟩, .int .i64 0] 33)) w2 → w2.heap[w.heap.size]? = some (.cells #[.int .i64 0, .float .f64 0, .string ⟨#[]⟩, .int .i64 0] 33 (0, 0)) := fun w2 hp2 => bk_pur (bk_new _ _) hp2
  clear h hok
  go_enter Tryd.func22, Tryd.ntmps22
  go_wp2_with fail
  go_wp2_with fail
  refine (HO).mono ?_
  rintro e w1 ⟨rfl, h1⟩
  go_wp2_with fail
  go_wp2_with fail
  refine ((OW _ h1)).mono ?_
  rintro e w2 ⟨rfl, h2⟩
  have h3 := h1.trans h2
  have r0 := hR _ h3
  have c0 := bk_cell r0 0 _ rfl
  have c1 := bk_cell r0 1 _ rfl
  have c2 := bk_cell r0 2 _ rfl
  have c3 := bk_cell r0 3 _ rfl
  have f0 := bk_free r0 0
  have f1 := bk_free r0 1
  have f2 := bk_free r0 2
  have f3 := bk_free r0 3
  go_wp2_with fail
  refine bodyPost_ret (v := .tuple #[.agg #[.int .i64 kk, .float .f64 nn, .string ⟨tt.toArray⟩, .int .i64 rr], .bool b]) (by simp [results, Tryd.results22, go_sem, c0, c1, c2, c3]) rfl ⟨rfl, ?_⟩
  have hp2 := p0.trans h3
  repeat (first | exact hp2 | with_reducible refine Pur.setCell ?_ (Nat.le_refl _) _ | with_reducible refine Pur.alloc ?_ _)
end Go.Proofs.YtfophnmnehpenaaDoor
