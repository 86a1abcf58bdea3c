/- Layer 8: (*Heap).Own. -/
import Derived.Test.YtfophnmnehpenaaDoorHm5
import Derived.Test.YtfophnmnehpenaaDoorHp4
import Derived.Test.YtfophnmnehpenaaDoorHm7
namespace Go.Proofs.YtfophnmnehpenaaDoor
open Go Go.RowKit
set_option linter.all false
/-- an object of the heap, with its place -/
theorem HpAt.find {w : World} {s : Hs} (h : HpAt w s) {i : Int} {x : Ob} (hx : s.d.obj i = some x) : ∃ p, s.at i = some ⟨p.o, 0, none⟩ ∧ ObIn w p x ∧ p ∈ s.ps := by
  unfold Hd.obj Hs.d at hx
  unfold Hs.at
  split at hx
  · cases hx
  · next h0 =>
    have hl := (List.getElem?_eq_some_iff.1 hx).1
    simp only at hx hl
    have hl' : i.toNat < s.ps.length := by rw [← h.len]; exact hl
    refine ⟨s.ps[i.toNat], ?_, h.each _ _ _ (List.getElem?_eq_getElem hl') hx, List.getElem_mem hl'⟩
    rw [if_neg (by omega), List.getElem?_eq_getElem hl']
    rfl
set_option maxRecDepth 100000 in
set_option maxHeartbeats 4000000 in
theorem own_len (s : Hs) (i : Int) (x : Ob) (w : World) (h : HpAt w s) (hx : s.d.obj i = some x) (hk : x.kind = 2) (hn : x.items.length ≤ 10000) :
    Calls Tryd.prog 20 #[.pointer (some ⟨s.h, 0, none⟩), .int .i64 i, .string ⟨lenKey.toArray⟩] w fun e w' => e = .returned (.tuple #[(Va.mk 3 (floatOfInt .f64 x.items.length) [] 0).v, .bool true]) ∧ Pur w w' := by
  have AT := at_any s i w h
  obtain ⟨p, hp, hob, -⟩ := h.find hx
  rw [hp] at AT
  obtain ⟨a, c, hiv⟩ := row_shape hob.items
  have B := hob.own
  rw [hiv, hk] at B
  have B1 := bk_alloc B (.cells #[.int .i64 0, .float .f64 0, .string ⟨#[]⟩, .int .i64 0] 33)
  have k0 := bk_cell B1 0 _ rfl
  have k7 := bk_cell B1 7 _ rfl
  have AT' := at_any s i _ (h.pur ((Pur.refl w).alloc (.cells #[.int .i64 0, .float .f64 0, .string ⟨#[]⟩, .int .i64 0] 33)))
  rw [hp] at AT'
  clear AT B B1 hob hiv h hx hk
  unfold lenKey
  go_enter Tryd.func20, Tryd.ntmps20
  go_wp2_with fail
  refine AT'.mono ?_
  rintro e w1 ⟨rfl, rfl⟩
  go_wp2_with fail
  refine bodyPost_ret (v := .tuple #[.agg #[.int .i64 3, .float .f64 (floatOfInt .f64 x.items.length), .string ⟨#[]⟩, .int .i64 0], .bool true]) (by simp [results, Tryd.results20, go_sem]) rfl ⟨rfl, ?_⟩
  repeat (first | exact Pur.refl _ | with_reducible refine Pur.setCell ?_ (Nat.le_refl _) _ | with_reducible refine Pur.alloc ?_ _)
end Go.Proofs.YtfophnmnehpenaaDoor
