/- Layer 8: (*Heap).Put: an array's item. -/
import Derived.Test.YtfophnmnehpenaaDoorHm23
import Derived.Test.YtfophnmnehpenaaDoorHm24
namespace Go.Proofs.YtfophnmnehpenaaDoor
open Go Go.RowKit
set_option linter.all false
set_option maxRecDepth 100000 in
set_option maxHeartbeats 8000000 in
theorem put_item (s : Hs) (i : Int) (x : Ob) (key : List UInt8) (v : Va) (w : World) (h : HpAt w s) {G : Nat} (hok : s.d.Ok G) (hx : s.d.obj i = some x) (hvw : v.wf) (hr : v.right s.d.xs.length = true) (hk : x.kind = 2) (hkl : key.length ≤ 1000000) (hne : ¬ key = lenKey) (m : Nat) (hix : index key = some m) (hm : m < x.items.length) :
    Calls Tryd.prog 16 #[.pointer (some ⟨s.h, 0, none⟩), .int .i64 i, .string ⟨key.toArray⟩, v.v] w fun e w' => e = .returned (.int .i64 0) ∧ Left w s w' (s.d.turn i (x.item m v) s.d.left) := by
  obtain ⟨k, n, t, r⟩ := v
  have p1 : Pur w (w.alloc (.cells #[.int .i64 k, .float .f64 n, .string ⟨t.toArray⟩, .int .i64 r] 33)) := (Pur.refl w).alloc _
  obtain ⟨p, hp, hxx, hat, hob⟩ := h.pl hx
  have AT := at_any s i _ (h.pur p1)
  rw [hat] at AT
  have RT := right_any s ⟨k, n, t, r⟩ _ (h.pur p1) hvw.1 hvw.2
  rw [show s.ps.length = s.d.xs.length from h.len.symm, hr] at RT
  have V2 : ∀ w2, Pur (w.alloc (.cells #[.int .i64 k, .float .f64 n, .string ⟨t.toArray⟩, .int .i64 r] 33)) w2 → w2.heap[w.heap.size]? = some (.cells #[.int .i64 k, .float .f64 n, .string ⟨t.toArray⟩, .int .i64 r] 33 (0, 0)) := fun w2 h2 => bk_pur (bk_new _ _) h2
  have O2 : ∀ w2, Pur (w.alloc (.cells #[.int .i64 k, .float .f64 n, .string ⟨t.toArray⟩, .int .i64 r] 33)) w2 → HpAt w2 s ∧ ObIn w2 p x := fun w2 h2 => ⟨h.pur (p1.trans h2), (h.pur (p1.trans h2)).each _ _ _ hp hxx⟩
  have IX := fun w => index_any key w (by omega)
  rw [hix] at IX
  simp only [ix] at IX
  have q1 := eqkey_no hne
  unfold lenKey at q1 hne
  obtain ⟨g, cap, hiv⟩ := row_some hob.items (by omega)
  have hmI : (m : Int) < x.items.length := by omega
  have hm0 : (0 : Int) ≤ m := by omega
  have hmD : decide ((x.items.length : Int) ≤ m) = false := decide_eq_false (by omega)
  have ST : ∀ w4, Pur (w.alloc (.cells #[.int .i64 k, .float .f64 n, .string ⟨t.toArray⟩, .int .i64 r] 33)) w4 → _ := fun w4 h4 => item_store (O2 w4 h4).1 hp hxx hiv hm ⟨k, n, t, r⟩
  have hfin : ∀ w4, Pur w w4 → HpAt (put4 w4 g m ⟨k, n, t, r⟩) (s.turn i.toNat p (x.item m ⟨k, n, t, r⟩)) → Step w4 s (put4 w4 g m ⟨k, n, t, r⟩) (s.turn i.toNat p (x.item m ⟨k, n, t, r⟩)) → Left w s (put4 w4 g m ⟨k, n, t, r⟩) (s.d.turn i (x.item m ⟨k, n, t, r⟩) s.d.left) := fun w4 h4 a b =>
    ⟨_, a, (Step.pur h4).trans b, rfl, fun j => turn_at s i.toNat p p _ hp rfl j⟩
  simp only [Va.v, Va.cells] at *
  generalize s.d.turn i (x.item m ⟨k, n, t, r⟩) s.d.left = D at *
  clear h hx hp hxx hat hr hok hvw hob
  go_enter Tryd.func16, Tryd.ntmps16
  go_wp2_with fail
  go_wp2_with fail
  refine (AT).mono ?_
  rintro e w2 ⟨rfl, rfl⟩
  go_wp2_with fail
  go_wp2_with fail
  refine (RT).mono ?_
  rintro e w2 ⟨rfl, h2⟩
  have ob := (O2 _ h2).2.own
  rw [hk] at ob
  have q0 := bk_cell ob 0 _ rfl
  clear AT RT ob
  go_wp2_with fail
  refine (IX _).mono ?_
  rintro e w3 ⟨rfl, h3⟩
  have h23 := h2.trans h3
  have B := (O2 _ h23).2.own
  rw [hk] at B
  have q0 := bk_cell B 0 _ rfl
  have q7 := bk_cell B 7 (.slice (some ⟨g, 0, none⟩) x.items.length cap) (by rw [← hiv]; rfl)
  have Z7 : ∀ y : PW w3, y.to.cell? ⟨p.o, 7, none⟩ = some (.slice (some ⟨g, 0, none⟩) x.items.length cap) := fun y => bk_cell (bk_pur B y.pur) 7 _ (by rw [← hiv]; rfl)
  have Zv := V2 _ h23
  have Z0 : ∀ y : PW w3, y.to.cell? ⟨w.heap.size, 0, none⟩ = some (.int .i64 k) := fun y => bk_cell (bk_pur Zv y.pur) 0 _ rfl
  have Z1 : ∀ y : PW w3, y.to.cell? ⟨w.heap.size, 1, none⟩ = some (.float .f64 n) := fun y => bk_cell (bk_pur Zv y.pur) 1 _ rfl
  have Z2 : ∀ y : PW w3, y.to.cell? ⟨w.heap.size, 2, none⟩ = some (.string ⟨t.toArray⟩) := fun y => bk_cell (bk_pur Zv y.pur) 2 _ rfl
  have Z3 : ∀ y : PW w3, y.to.cell? ⟨w.heap.size, 3, none⟩ = some (.int .i64 r) := fun y => bk_cell (bk_pur Zv y.pur) 3 _ rfl
  clear IX V2 B O2
  go_wp2_with fail
  refine wp_region_pur_tail 7 (by kernel_rfl) (by kernel_rfl) ?_
  simp only [List.take_succ_cons, List.take_zero, List.drop_succ_cons, List.drop_zero]
  repeat (go_big_quiet_step (fail))
  refine wpQuiet_nil ?_
  intro w4 h4
  have h24 := h23.trans h4
  obtain ⟨⟨f0, u0, c0⟩, ⟨f1, u1, c1⟩, ⟨f2, u2, c2⟩, ⟨f3, u3, c3⟩, HP, HS⟩ := ST _ h24
  have HF := hfin _ (p1.trans h24) HP HS
  unfold put4 at HF
  simp only at HF f0 f1 f2 f3 c0 c1 c2 c3
  clear Z7 Z0 Z1 Z2 Z3 Zv ST HP HS hfin
  go_wp2
  go_ret
  exact ⟨rfl, HF⟩
end Go.Proofs.YtfophnmnehpenaaDoor
