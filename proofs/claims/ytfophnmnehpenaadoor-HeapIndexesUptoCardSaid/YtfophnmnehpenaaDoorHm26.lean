/- Layer 8: (*Heap).Put: an item beyond an array's end. -/
import Derived.Test.YtfophnmnehpenaaDoorHm25
namespace Go.Proofs.YtfophnmnehpenaaDoor
open Go Go.RowKit
set_option linter.all false
theorem obj_turn {d : Hd} {i : Int} {x x' : Ob} {c : Int} (h : d.obj i = some x) : (d.turn i x' c).obj i = some x' := by
  obtain ⟨-, h0, h1, -⟩ := Hd.obj_mem h
  unfold Hd.obj Hd.turn
  rw [if_neg (by omega)]
  simp only
  rw [List.getElem?_set_self (by omega)]
theorem turn_turn (d : Hd) (i : Int) (x x' : Ob) (c c' : Int) : (d.turn i x c).turn i x' c' = d.turn i x' c' := by
  unfold Hd.turn
  simp only [List.set_set]
theorem Left.then {w w3 w' : World} {s s' : Hs} {d : Hd} (h : HpAt w3 s') (k : Step w s w3 s') (ha : ∀ j, s'.at j = s.at j) (l : Left w3 s' w' d) : Left w s w' d := by
  obtain ⟨s2, h1, h2, h3, h4⟩ := l
  exact ⟨s2, h1, k.trans h2, h3, fun j => (h4 j).trans (ha j)⟩
set_option maxRecDepth 100000 in
set_option maxHeartbeats 8000000 in
theorem put_full (s : Hs) (i : Int) (x : Ob) (key : List UInt8) (v : Va) (w : World) (h : HpAt w s) {G : Nat} (hok : s.d.Ok G) (hx : s.d.obj i = some x) (hvw : v.wf) (hr : v.right s.d.xs.length = true) (hk : x.kind = 2) (hkl : key.length ≤ 1000000) (hne : ¬ key = lenKey) (m : Nat) (hix : index key = some m) (hm : x.items.length ≤ m) (hm2 : m ≤ 2147483647) (hlt : s.d.left < (m : Int) + 1 - x.items.length) :
    Calls Tryd.prog 16 #[.pointer (some ⟨s.h, 0, none⟩), .int .i64 i, .string ⟨key.toArray⟩, v.v] w fun e w' => e = .returned (.int .i64 112) ∧ Left w s w' s.d := by
  obtain ⟨k, n, t, r⟩ := v
  have p1 : Pur w (w.alloc (.cells #[.int .i64 k, .float .f64 n, .string ⟨t.toArray⟩, .int .i64 r] 33)) := (Pur.refl w).alloc _
  obtain ⟨p, hp, hxx, hat, hob⟩ := h.pl hx
  have AT := at_any s i _ (h.pur p1)
  rw [hat] at AT
  have RT := right_any s ⟨k, n, t, r⟩ _ (h.pur p1) hvw.1 hvw.2
  rw [show s.ps.length = s.d.xs.length from h.len.symm, hr] at RT
  have V2 : ∀ w2, Pur (w.alloc (.cells #[.int .i64 k, .float .f64 n, .string ⟨t.toArray⟩, .int .i64 r] 33)) w2 → w2.heap[w.heap.size]? = some (.cells #[.int .i64 k, .float .f64 n, .string ⟨t.toArray⟩, .int .i64 r] 33 (0, 0)) := fun w2 h2 => bk_pur (bk_new _ _) h2
  have O2 : ∀ w2, Pur (w.alloc (.cells #[.int .i64 k, .float .f64 n, .string ⟨t.toArray⟩, .int .i64 r] 33)) w2 → HpAt w2 s ∧ ObIn w2 p x := fun w2 h2 => ⟨h.pur (p1.trans h2), (h.pur (p1.trans h2)).each _ _ _ hp hxx⟩
  have IX := fun w => index_any key w (by omega)
  rw [hix] at IX
  simp only [ix] at IX
  have q1 := eqkey_no hne
  unfold lenKey at q1 hne
  have hmI : (x.items.length : Int) ≤ m := by omega
  have wr : IntKind.i64.wrap ((m : Int) + 1) = m + 1 := IntWalk.i64_in _ (by omega)
  have hres : s.d.resize i x (m + 1) = (112, s.d) := by unfold Hd.resize; rw [if_pos (by omega)]
  have RS := fun w3 (hp3 : Pur w w3) => resize_any s i x p.o (m + 1) w3 (h.pur hp3) hx hat (by omega) hok
  rw [hres] at RS
  rw [show (((m + 1 : Nat)) : Int) = (m : Int) + 1 from rfl] at RS
  obtain ⟨a, c, hiv⟩ := row_shape hob.items
  simp only [Va.v, Va.cells] at *
  clear h hx hp hxx hat hr hok hvw hob hres hlt
  go_enter Tryd.func16, Tryd.ntmps16
  go_wp2_with fail
  go_wp2_with fail
  refine (AT).mono ?_
  rintro e w2 ⟨rfl, rfl⟩
  go_wp2_with fail
  go_wp2_with fail
  refine (RT).mono ?_
  rintro e w2 ⟨rfl, h2⟩
  have ob := (O2 _ h2).2.own
  rw [hk] at ob
  have q0 := bk_cell ob 0 _ rfl
  clear AT RT ob
  go_wp2_with fail
  refine (IX _).mono ?_
  rintro e w3 ⟨rfl, h3⟩
  have h23 := h2.trans h3
  have B := (O2 _ h23).2.own
  rw [hk] at B
  have q0 := bk_cell B 0 _ rfl
  have q7 := bk_cell B 7 (.slice a x.items.length c) (by rw [← hiv]; rfl)
  have RS' := RS _ (p1.trans h23)
  clear IX V2 B O2 RS
  go_wp2_with fail
  refine RS'.mono ?_
  rintro e w4 ⟨rfl, hL⟩
  go_wp2
  go_ret
  exact ⟨rfl, hL.after (p1.trans h23)⟩
set_option maxRecDepth 100000 in
set_option maxHeartbeats 8000000 in
theorem put_grow (s : Hs) (i : Int) (x : Ob) (key : List UInt8) (v : Va) (w : World) (h : HpAt w s) {G : Nat} (hok : s.d.Ok G) (hx : s.d.obj i = some x) (hvw : v.wf) (hr : v.right s.d.xs.length = true) (hk : x.kind = 2) (hkl : key.length ≤ 1000000) (hne : ¬ key = lenKey) (m : Nat) (hix : index key = some m) (hm : x.items.length ≤ m) (hm2 : m ≤ 2147483647) (hlt : ¬ s.d.left < (m : Int) + 1 - x.items.length) :
    Calls Tryd.prog 16 #[.pointer (some ⟨s.h, 0, none⟩), .int .i64 i, .string ⟨key.toArray⟩, v.v] w fun e w' => e = .returned (.int .i64 0) ∧ Left w s w' (s.d.turn i ((x.resize (m + 1)).item m v) (s.d.left - ((m : Int) + 1 - x.items.length))) := by
  obtain ⟨k, n, t, r⟩ := v
  have p1 : Pur w (w.alloc (.cells #[.int .i64 k, .float .f64 n, .string ⟨t.toArray⟩, .int .i64 r] 33)) := (Pur.refl w).alloc _
  obtain ⟨p, hp, hxx, hat, hob⟩ := h.pl hx
  have AT := at_any s i _ (h.pur p1)
  rw [hat] at AT
  have RT := right_any s ⟨k, n, t, r⟩ _ (h.pur p1) hvw.1 hvw.2
  rw [show s.ps.length = s.d.xs.length from h.len.symm, hr] at RT
  have V2 : ∀ w2, Pur (w.alloc (.cells #[.int .i64 k, .float .f64 n, .string ⟨t.toArray⟩, .int .i64 r] 33)) w2 → w2.heap[w.heap.size]? = some (.cells #[.int .i64 k, .float .f64 n, .string ⟨t.toArray⟩, .int .i64 r] 33 (0, 0)) := fun w2 h2 => bk_pur (bk_new _ _) h2
  have O2 : ∀ w2, Pur (w.alloc (.cells #[.int .i64 k, .float .f64 n, .string ⟨t.toArray⟩, .int .i64 r] 33)) w2 → HpAt w2 s ∧ ObIn w2 p x := fun w2 h2 => ⟨h.pur (p1.trans h2), (h.pur (p1.trans h2)).each _ _ _ hp hxx⟩
  have IX := fun w => index_any key w (by omega)
  rw [hix] at IX
  simp only [ix] at IX
  have q1 := eqkey_no hne
  unfold lenKey at q1 hne
  have hmI : (x.items.length : Int) ≤ m := by omega
  have hm0 : (0 : Int) ≤ m := by omega
  have wr : IntKind.i64.wrap ((m : Int) + 1) = m + 1 := IntWalk.i64_in _ (by omega)
  have hres : s.d.resize i x (m + 1) = (0, s.d.turn i (x.resize (m + 1)) (s.d.left - ((m : Int) + 1 - x.items.length))) := by unfold Hd.resize; rw [if_neg (by omega)]; rfl
  have RS := fun w3 (hp3 : Pur w w3) => resize_any s i x p.o (m + 1) w3 (h.pur hp3) hx hat (by omega) hok
  rw [hres] at RS
  rw [show (((m + 1 : Nat)) : Int) = (m : Int) + 1 from rfl] at RS
  obtain ⟨a, c, hiv⟩ := row_shape hob.items
  have hxl : (x.resize (m + 1)).items.length = m + 1 := by unfold Ob.resize; rw [if_neg (by omega)]; simp; omega
  have hxk : (x.resize (m + 1)).kind = 2 := hk
  have hmL : (m : Int) < (m + 1 : Nat) := by omega
  have NX : ∀ w3 w4, Pur (w.alloc (.cells #[.int .i64 k, .float .f64 n, .string ⟨t.toArray⟩, .int .i64 r] 33)) w3 → Left w3 s w4 (s.d.turn i (x.resize (m + 1)) (s.d.left - ((m : Int) + 1 - x.items.length))) → ∃ g cap, ∃ s' p', p'.o = p.o ∧ HpAt w4 s' ∧ Step w s w4 s' ∧ (∀ j, s'.at j = s.at j) ∧ s'.d = s.d.turn i (x.resize (m + 1)) (s.d.left - ((m : Int) + 1 - x.items.length)) ∧ s'.ps[i.toNat]? = some p' ∧ s'.xs[i.toNat]? = some (x.resize (m + 1)) ∧ p'.iv = .slice (some ⟨g, 0, none⟩) (m + 1) cap ∧ w4.heap[w.heap.size]? = some (.cells #[.int .i64 k, .float .f64 n, .string ⟨t.toArray⟩, .int .i64 r] 33 (0, 0)) := fun w3 w4 h3 hL => by
    obtain ⟨s', l1, l2, l3, l4⟩ := hL
    obtain ⟨p', hp', hxx', hat', hob'⟩ := l1.pl (i := i) (x := x.resize (m + 1)) (by rw [l3]; exact obj_turn hx)
    obtain ⟨g, cap, hiv'⟩ := row_some hob'.items (by rw [hxl]; omega)
    rw [hxl] at hiv'
    refine ⟨g, cap, s', p', ?_, l1, (Step.pur (p1.trans h3)).trans l2, l4, l3, hp', hxx', hiv', ?_⟩
    · have := l4 i
      rw [hat', hat] at this
      simpa using this
    · have hv := V2 _ h3
      exact (l2.chg.block _ (bk_lt hv) (fun hm => by have := h.lt _ hm; omega)).trans hv
  have HV' := hvw
  simp only [Va.v, Va.cells] at *
  clear h hp hxx hat hr hok hvw hob hres hlt hx
  go_enter Tryd.func16, Tryd.ntmps16
  go_wp2_with fail
  go_wp2_with fail
  refine (AT).mono ?_
  rintro e w2 ⟨rfl, rfl⟩
  go_wp2_with fail
  go_wp2_with fail
  refine (RT).mono ?_
  rintro e w2 ⟨rfl, h2⟩
  have ob := (O2 _ h2).2.own
  rw [hk] at ob
  have q0 := bk_cell ob 0 _ rfl
  clear AT RT ob
  go_wp2_with fail
  refine (IX _).mono ?_
  rintro e w3 ⟨rfl, h3⟩
  have h23 := h2.trans h3
  have B := (O2 _ h23).2.own
  rw [hk] at B
  have q0 := bk_cell B 0 _ rfl
  have q7 := bk_cell B 7 (.slice a x.items.length c) (by rw [← hiv]; rfl)
  have RS' := RS _ (p1.trans h23)
  clear IX V2 B O2 RS hiv
  go_wp2_with fail
  refine RS'.mono ?_
  rintro e w4 ⟨rfl, hL⟩
  obtain ⟨g, cap, s', p', ho', h4, k4, a4, d4, hp', hxx', hiv, Zv⟩ := NX _ _ h23 hL
  have B := (h4.each _ _ _ hp' hxx').own
  rw [ho', hxk] at B
  have Z7 : ∀ y : PW w4, y.to.cell? ⟨p.o, 7, none⟩ = some (.slice (some ⟨g, 0, none⟩) (m + 1) cap) := fun y => bk_cell (bk_pur B y.pur) 7 _ (by rw [← hiv]; rfl)
  have Z0 : ∀ y : PW w4, y.to.cell? ⟨w.heap.size, 0, none⟩ = some (.int .i64 k) := fun y => bk_cell (bk_pur Zv y.pur) 0 _ rfl
  have Z1 : ∀ y : PW w4, y.to.cell? ⟨w.heap.size, 1, none⟩ = some (.float .f64 n) := fun y => bk_cell (bk_pur Zv y.pur) 1 _ rfl
  have Z2 : ∀ y : PW w4, y.to.cell? ⟨w.heap.size, 2, none⟩ = some (.string ⟨t.toArray⟩) := fun y => bk_cell (bk_pur Zv y.pur) 2 _ rfl
  have Z3 : ∀ y : PW w4, y.to.cell? ⟨w.heap.size, 3, none⟩ = some (.int .i64 r) := fun y => bk_cell (bk_pur Zv y.pur) 3 _ rfl
  have ST : ∀ w5, Pur w4 w5 → _ := fun w5 h5 => item_store (m := m) (g := g) (cap := cap) (h4.pur h5) hp' hxx' (by rw [hxl]; exact hiv) (by rw [hxl]; omega) ⟨k, n, t, r⟩
  have hfin : ∀ w5, Pur w4 w5 → HpAt (put4 w5 g m ⟨k, n, t, r⟩) (s'.turn i.toNat p' ((x.resize (m + 1)).item m ⟨k, n, t, r⟩)) → Step w5 s' (put4 w5 g m ⟨k, n, t, r⟩) (s'.turn i.toNat p' ((x.resize (m + 1)).item m ⟨k, n, t, r⟩)) → Left w s (put4 w5 g m ⟨k, n, t, r⟩) (s.d.turn i ((x.resize (m + 1)).item m ⟨k, n, t, r⟩) (s.d.left - ((m : Int) + 1 - x.items.length))) := fun w5 h5 a b => by
    refine Left.then h4 k4 a4 ⟨_, a, (Step.pur h5).trans b, ?_, fun j => turn_at s' i.toNat p' p' _ hp' rfl j⟩
    have e1 : (s'.turn i.toNat p' ((x.resize (m + 1)).item m ⟨k, n, t, r⟩)).d = s'.d.turn i ((x.resize (m + 1)).item m ⟨k, n, t, r⟩) s'.d.left := rfl
    rw [e1, d4, turn_turn]
    rfl
  clear NX hL RS' B h4 k4 a4 d4 hp' hxx' hxk hxl q0 q7
  go_wp2_with fail
  refine wp_region_pur_tail 7 (by kernel_rfl) (by kernel_rfl) ?_
  simp only [List.take_succ_cons, List.take_zero, List.drop_succ_cons, List.drop_zero]
  repeat (go_big_quiet_step (fail))
  refine wpQuiet_nil ?_
  intro w5 h5
  obtain ⟨⟨f0, u0, c0⟩, ⟨f1, u1, c1⟩, ⟨f2, u2, c2⟩, ⟨f3, u3, c3⟩, HP, HS⟩ := ST _ h5
  have HF := hfin _ h5 HP HS
  unfold put4 at HF
  simp only at HF f0 f1 f2 f3 c0 c1 c2 c3
  clear Z7 Z0 Z1 Z2 Z3 Zv ST HP HS hfin
  go_wp2
  go_ret
  exact ⟨rfl, HF⟩
end Go.Proofs.YtfophnmnehpenaaDoor
