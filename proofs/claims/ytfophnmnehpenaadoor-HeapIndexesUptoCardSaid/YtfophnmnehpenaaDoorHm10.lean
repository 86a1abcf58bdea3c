/- Layer 8: (*Heap).Own: no object; a property. -/
import Derived.Test.YtfophnmnehpenaaDoorHm9
import Derived.Maps.OwnSet
namespace Go.Proofs.YtfophnmnehpenaaDoor
open Go Go.RowKit
set_option linter.all false
theorem zero_va (w : World) : (zeroValue 33).run Tryd.prog w = .ok Va.zero.v w := by kernel_rfl
theorem va_law : Go.Maps.Keyed Tryd.prog 9 := Go.Maps.string_keyed Tryd.underlying9
set_option maxRecDepth 100000 in
set_option maxHeartbeats 4000000 in
theorem own_none (s : Hs) (i : Int) (key : List UInt8) (w : World) (h : HpAt w s) (hx : s.d.obj i = none) :
    Calls Tryd.prog 20 #[.pointer (some ⟨s.h, 0, none⟩), .int .i64 i, .string ⟨key.toArray⟩] w fun e w' => e = .returned (.tuple #[Va.zero.v, .bool false]) ∧ Pur w w' := by
  have AT' := at_any s i _ (h.pur ((Pur.refl w).alloc (.cells #[.int .i64 0, .float .f64 0, .string ⟨#[]⟩, .int .i64 0] 33)))
  rw [(at_none h i).2 hx] at AT'
  clear h hx
  go_enter Tryd.func20, Tryd.ntmps20
  go_wp2_with fail
  refine AT'.mono ?_
  rintro e w1 ⟨rfl, rfl⟩
  go_wp2_with fail
  refine bodyPost_ret (v := .tuple #[.agg #[.int .i64 0, .float .f64 0, .string ⟨#[]⟩, .int .i64 0], .bool false]) (by simp [results, Tryd.results20, go_sem]) rfl ⟨rfl, ?_⟩
  repeat (first | exact Pur.refl _ | with_reducible refine Pur.setCell ?_ (Nat.le_refl _) _ | with_reducible refine Pur.alloc ?_ _)
set_option maxRecDepth 100000 in
set_option maxHeartbeats 4000000 in
theorem own_prop (s : Hs) (i : Int) (x : Ob) (key : List UInt8) (w : World) (h : HpAt w s) (hx : s.d.obj i = some x) (hk : x.kind ≠ 2) (hkl : key.length ≤ 1000000) :
    Calls Tryd.prog 20 #[.pointer (some ⟨s.h, 0, none⟩), .int .i64 i, .string ⟨key.toArray⟩] w fun e w' => e = .returned (.tuple #[((x.props key).getD Va.zero).v, .bool (x.props key).isSome]) ∧ Pur w w' := by
  obtain ⟨p, hp, hob, -⟩ := h.find hx
  have B1 := bk_alloc hob.own (.cells #[.int .i64 0, .float .f64 0, .string ⟨#[]⟩, .int .i64 0] 33)
  have k0 := bk_cell B1 0 _ rfl
  have k6 := bk_cell B1 6 _ rfl
  have AT' := at_any s i _ (h.pur ((Pur.refl w).alloc (.cells #[.int .i64 0, .float .f64 0, .string ⟨#[]⟩, .int .i64 0] 33)))
  rw [hp] at AT'
  obtain ⟨D, hD, hf⟩ := hob.props
  have hD' := hD.alloc (.cells #[.int .i64 0, .float .f64 0, .string ⟨#[]⟩, .int .i64 0] 33)
  obtain ⟨f1, f2⟩ := hf key
  have f3 : D.atKey (.string key) (.held Va.zero) = .held ((x.props key).getD Va.zero) := by
    rw [f2]; cases x.props key <;> rfl
  have hkey := key_lit (k := key) (by unfold maxLen; omega)
  generalize (x.props key).isSome = bo at *
  obtain ⟨y, hy⟩ : ∃ y, (x.props key).getD Va.zero = y := ⟨_, rfl⟩
  rw [hy] at f3 ⊢
  obtain ⟨kk, nn, tt, rr⟩ := y
  have hz := RV_v Va.zero
  clear B1 hob h hx hf hD hy f2
  go_enter Tryd.func20, Tryd.ntmps20
  go_wp2_with fail
  refine AT'.mono ?_
  rintro e w1 ⟨rfl, rfl⟩
  go_wp2_with (at_lookup; refine wpList_lookup_own_ok _ rfl _ _ 76 rfl 9 33 va_law Tryd.underlying76 _ (zero_va _) (.held Va.zero) [] hz p.m _ D rfl hD' _ _ rfl hkey ?_)
  intro v ps hv
  try rw [f3] at hv
  obtain rfl := RV_inv hv
  try rw [f1]
  simp only [Va.v, Va.cells]
  go_wp2_with fail
  refine bodyPost_ret (v := .tuple #[.agg #[.int .i64 kk, .float .f64 nn, .string ⟨tt.toArray⟩, .int .i64 rr], .bool bo]) (by simp [results, Tryd.results20, go_sem]) rfl ⟨rfl, ?_⟩
  repeat (first | exact Pur.refl _ | with_reducible refine Pur.setCell ?_ (Nat.le_refl _) _ | with_reducible refine Pur.alloc ?_ _)
end Go.Proofs.YtfophnmnehpenaaDoor
