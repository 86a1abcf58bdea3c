/- api.Tell: which number an error comes of, and its place. -/
import Derived.Test.YtaknfofppknloaaDoorTk19
import Derived.Test.YtaknfofppknloaaDoorTkAs
namespace Go.Proofs.YtaknfofppknloaaDoor
open Go Go.RowKit
set_option linter.all false
namespace Tk
/-- the library's variables -/
structure TW (w : World) : Prop where
  tabs : Lib.Utf8Tabs 4 5 w
  fold : FoldW w
  et : w.cell? ⟨0, 0, none⟩ = some (.iface 82 (.agg #[.pointer (some ⟨7, 25, none⟩)]))
theorem TW.pur {w w' : World} (h : TW w) (hp : Pur w w') : TW w' :=
  ⟨Utf8Tabs_below h.tabs hp, h.fold.pur hp, (hp.cell (World.block_lt_of_cell? w _ h.et)).trans h.et⟩
theorem tell_nil (w : World) : Calls Tryd.prog 13 #[.nilIface] w fun e w' => e = .returned (.tuple #[.int .i64 0, .agg #[.int .i64 0, .int .i64 0]]) ∧ Pur w w' := by
  have c0 : (w.alloc (.cells #[.int .i64 0, .int .i64 0] 30)).cell? ⟨w.heap.size, 0, none⟩ = some (.int .i64 0) := bk_cell (bk_new w _) 0 _ rfl
  have c1 : (w.alloc (.cells #[.int .i64 0, .int .i64 0] 30)).cell? ⟨w.heap.size, 1, none⟩ = some (.int .i64 0) := bk_cell (bk_new w _) 1 _ rfl
  go_enter Tryd.func13, Tryd.ntmps13
  go_wp2
  refine bodyPost_ret (v := .tuple #[.int .i64 0, .agg #[.int .i64 0, .int .i64 0]]) (by simp [results, Tryd.results13, go_sem, c0, c1]) rfl ⟨rfl, (Pur.refl w).alloc _⟩
theorem as_fault (n : Addr) (t : Nat) (old : Value) (w : World) (hW : TW w) (ht : w.heap[t]? = some (.cells #[old] 47 (0, 0))) :
    Calls Tryd.prog 19 #[.iface 47 (.pointer (some n)), .iface 55 (.pointer (some ⟨t, 0, none⟩))] w fun ev w' => ev = .returned (.bool true) ∧ Chg [t] w w' ∧ w'.heap[t]? = some (.cells #[.pointer (some n)] 47 (0, 0)) := by
  refine (as_hitF n ⟨t, 0, none⟩ old w hW.et (bk_cell ht 0 _ rfl) (bk_free ht 0)).mono ?_
  rintro ev w' ⟨rfl, o1, o2, o3, o4, rfl⟩
  exact ⟨rfl, ((((((Chg.refl [t] w).alloc o1).alloc o2).alloc o3).alloc o4).setCell (a := ⟨t, 0, none⟩) (.inl (by simp)) _), bk_set (bk_alloc (bk_alloc (bk_alloc (bk_alloc ht o1) o2) o3) o4) 0 _⟩
theorem as_errno (n : Int) (fb t : Nat) (pl pc old : Value) (w : World) (hW : TW w) (hfb : w.heap[fb]? = some (.cells #[pl, pc, .iface 40 (.int .i64 n)] 57 (0, 0))) (ht : w.heap[t]? = some (.cells #[old] 40 (0, 0))) :
    Calls Tryd.prog 19 #[.iface 47 (.pointer (some ⟨fb, 0, none⟩)), .iface 58 (.pointer (some ⟨t, 0, none⟩))] w fun ev w' => ev = .returned (.bool true) ∧ Chg [t] w w' ∧ w'.heap[t]? = some (.cells #[.int .i64 n] 40 (0, 0)) := by
  refine (as_deep n fb pl pc ⟨t, 0, none⟩ old w hW.et hfb (bk_cell ht 0 _ rfl) (bk_free ht 0)).mono ?_
  rintro ev w' ⟨rfl, o1, o2, o3, o4, rfl⟩
  exact ⟨rfl, ((((((Chg.refl [t] w).alloc o1).alloc o2).alloc o3).alloc o4).setCell (a := ⟨t, 0, none⟩) (.inl (by simp)) _), bk_set (bk_alloc (bk_alloc (bk_alloc (bk_alloc ht o1) o2) o3) o4) 0 _⟩
theorem tell_fault (b : Nat) (l c n : Int) (w : World) (hW : TW w) (hb : w.heap[b]? = some (.cells #[.int .i64 l, .int .i64 c, .iface 40 (.int .i64 n)] 57 (0, 0))) :
    Calls Tryd.prog 13 #[.iface 47 (.pointer (some ⟨b, 0, none⟩))] w fun e w' => e = .returned (.tuple #[.int .i64 n, .agg #[.int .i64 l, .int .i64 c]]) ∧ Pur w w' := by
  obtain ⟨W1, hW1⟩ : ∃ W1, W1 = w.alloc (.cells #[.int .i64 0, .int .i64 0] 30) := ⟨_, rfl⟩
  obtain ⟨W2, hW2⟩ : ∃ W2, W2 = W1.alloc (.cells #[.pointer none] 47) := ⟨_, rfl⟩
  obtain ⟨W3, hW3⟩ : ∃ W3, W3 = W2.alloc (.cells #[.int .i64 0] 40) := ⟨_, rfl⟩
  obtain ⟨W4, hW4⟩ : ∃ W4, W4 = W3.alloc (.cells #[.int .i64 0, .int .i64 0] 30) := ⟨_, rfl⟩
  have s1 : W1.heap.size = w.heap.size + 1 := by rw [hW1]; exact Array.size_push _
  have s2 : W2.heap.size = w.heap.size + 1 + 1 := by rw [hW2, ← s1]; exact Array.size_push _
  have s3 : W3.heap.size = w.heap.size + 1 + 1 + 1 := by rw [hW3, ← s2]; exact Array.size_push _
  have s4 : W4.heap.size = w.heap.size + 1 + 1 + 1 + 1 := by rw [hW4, ← s3]; exact Array.size_push _
  have hP : Pur w W4 := by rw [hW4, hW3, hW2, hW1]; exact ((((Pur.refl w).alloc _).alloc _).alloc _).alloc _
  have b0 : W4.heap[w.heap.size]? = some (.cells #[.int .i64 0, .int .i64 0] 30 (0, 0)) := by
    rw [hW4, hW3, hW2, hW1]; exact bk_alloc (bk_alloc (bk_alloc (bk_new w _) _) _) _
  have b1 : W4.heap[w.heap.size + 1]? = some (.cells #[.pointer none] 47 (0, 0)) := by
    have := bk_new W1 (.cells #[.pointer none] 47)
    rw [s1] at this; rw [hW4, hW3, hW2]; exact bk_alloc (bk_alloc this _) _
  have b2 : W4.heap[w.heap.size + 1 + 1]? = some (.cells #[.int .i64 0] 40 (0, 0)) := by
    have := bk_new W2 (.cells #[.int .i64 0] 40)
    rw [s2] at this; rw [hW4, hW3]; exact bk_alloc this _
  have b3 : W4.heap[w.heap.size + 1 + 1 + 1]? = some (.cells #[.int .i64 0, .int .i64 0] 30 (0, 0)) := by
    have := bk_new W3 (.cells #[.int .i64 0, .int .i64 0] 30)
    rw [s3] at this; rw [hW4]; exact this
  have hlt := bk_lt hb
  have bb := bk_pur hb hP
  have A1 := as_fault ⟨b, 0, none⟩ (w.heap.size + 1) _ W4 (hW.pur hP) b1
  go_enter Tryd.func13, Tryd.ntmps13
  go_wp2_with fail
  rw [← hW1, ← hW2, ← hW3, ← hW4]
  refine A1.mono ?_
  rintro e w1 ⟨rfl, hc1, k1⟩
  have k0 := bk_chg b0 hc1 (by simp only [List.mem_singleton]; omega)
  have k2 := bk_chg b2 hc1 (by simp only [List.mem_singleton]; omega)
  have k3 := bk_chg b3 hc1 (by simp only [List.mem_singleton]; omega)
  have kb := bk_chg bb hc1 (by simp only [List.mem_singleton]; omega)
  have hp1 : Pur w w1 := pur_chg hP hc1 (by intro x hx; simp only [List.mem_singleton] at hx; omega)
  have z1 := bk_cell k1 0 _ rfl
  have zl := bk_cell kb 0 _ rfl
  have zc := bk_cell kb 1 _ rfl
  have z3 := bk_cell k3 0 _ rfl
  have z4 := bk_cell k3 1 _ rfl
  have f3 := bk_free k3 0
  have f4 := bk_free k3 1
  clear A1 hc1 hP b0 b1 b2 b3 bb hb
  go_wp2_with fail
  obtain ⟨W5, hW5⟩ : ∃ W5, W5 = (w1.setCell ⟨w.heap.size + 1 + 1 + 1, 0, none⟩ (.int .i64 l)).setCell ⟨w.heap.size + 1 + 1 + 1, 1, none⟩ (.int .i64 c) := ⟨_, rfl⟩
  have hc5 : Chg [w.heap.size + 1 + 1 + 1] w1 W5 := by
    rw [hW5]; exact ((Chg.refl _ w1).setCell (a := ⟨w.heap.size + 1 + 1 + 1, 0, none⟩) (.inl (by simp)) _).setCell (a := ⟨w.heap.size + 1 + 1 + 1, 1, none⟩) (.inl (by simp)) _
  have m3 : W5.heap[w.heap.size + 1 + 1 + 1]? = some (.cells #[.int .i64 l, .int .i64 c] 30 (0, 0)) := by
    rw [hW5]; exact bk_set (bk_set k3 0 _) 1 _
  have m0 := bk_chg k0 hc5 (by simp only [List.mem_singleton]; omega)
  have m2 := bk_chg k2 hc5 (by simp only [List.mem_singleton]; omega)
  have mb := bk_chg kb hc5 (by simp only [List.mem_singleton]; omega)
  have hp5 : Pur w W5 := pur_chg hp1 hc5 (by intro x hx; simp at hx; omega)
  have A2 := as_errno n b (w.heap.size + 1 + 1) _ _ _ W5 (hW.pur hp5) mb m2
  rw [← hW5]
  refine A2.mono ?_
  rintro e w6 ⟨rfl, hc6, r2⟩
  have r0 := bk_chg m0 hc6 (by simp only [List.mem_singleton]; omega)
  have r3 := bk_chg m3 hc6 (by simp only [List.mem_singleton]; omega)
  have hp6 : Pur w w6 := pur_chg hp5 hc6 (by intro x hx; simp at hx; omega)
  have y0 := bk_cell r0 0 _ rfl
  have y1 := bk_cell r0 1 _ rfl
  have g0 := bk_free r0 0
  have g1 := bk_free r0 1
  have y2 := bk_cell r2 0 _ rfl
  have y3 := bk_cell r3 0 _ rfl
  have y4 := bk_cell r3 1 _ rfl
  clear A2 hc6 hc5 m0 m2 m3 mb k0 k1 k2 k3 kb z1 zl zc z3 z4 f3 f4 hp1 hp5
  go_wp2
  go_region
  go_wp2
  obtain ⟨W7, hW7⟩ : ∃ W7, W7 = (w6.setCell ⟨w.heap.size, 0, none⟩ (.int .i64 l)).setCell ⟨w.heap.size, 1, none⟩ (.int .i64 c) := ⟨_, rfl⟩
  have m0 : W7.heap[w.heap.size]? = some (.cells #[.int .i64 l, .int .i64 c] 30 (0, 0)) := by
    rw [hW7]; exact bk_set (bk_set r0 0 _) 1 _
  have hp7 : Pur w W7 := by rw [hW7]; exact (hp6.setCell (Nat.le_refl _) _).setCell (Nat.le_refl _) _
  have z0 : W7.drew.cell? ⟨w.heap.size, 0, none⟩ = some (.int .i64 l) := bk_cell (bk_drew m0) 0 _ rfl
  have z1 : W7.drew.cell? ⟨w.heap.size, 1, none⟩ = some (.int .i64 c) := bk_cell (bk_drew m0) 1 _ rfl
  rw [← hW7]
  refine bodyPost_ret (v := .tuple #[.int .i64 n, .agg #[.int .i64 l, .int .i64 c]]) (by simp [results, Tryd.results13, go_sem, z0, z1]) rfl ⟨rfl, hp7.drew⟩
end Tk
end Go.Proofs.YtaknfofppknloaaDoor
