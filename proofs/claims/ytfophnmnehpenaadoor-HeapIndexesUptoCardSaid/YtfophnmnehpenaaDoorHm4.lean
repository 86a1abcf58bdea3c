/- Layer 8: (*Heap).add: the walk. -/
import Derived.Test.YtfophnmnehpenaaDoorHm3
import Derived.Lib.AppendIntMem
import Derived.Laws.AppendOwnNone
import Derived.OwnWalk
namespace Go.Proofs.YtfophnmnehpenaaDoor
open Go Go.RowKit
set_option linter.all false
theorem ptr_info : (Tryd.prog.info? 74).map (fun i => (i.zero.map (·.cells.size), i.size, i.bytes)) = some (some 1, 1, 8) := by kernel_rfl
theorem bk_cell {w : World} {b : Nat} {cur : Array Value} {e : TypeId} (h : w.heap[b]? = some (.cells cur e (0, 0))) (i : Nat) (v : Value) (hv : cur[i]? = some v) : w.cell? ⟨b, i, none⟩ = some v := by
  rw [cell_of_row w _ i _ _ _ h]; exact hv
@[go_sem] theorem run_mk {P : Program} (t : TypeId) (w : World) : (Instr.makeMap t none).run P w = .ok (.map (some w.heap.size)) (w.alloc (.map #[] 0)) := run_makeMap t w
theorem bk_lt {w : World} {b : Nat} {o : Obj} (h : w.heap[b]? = some o) : b < w.heap.size := (Array.getElem?_eq_some_iff.1 h).1
theorem bk_pur {w w' : World} {b : Nat} {o : Obj} (h : w.heap[b]? = some o) (hp : Pur w w') : w'.heap[b]? = some o := (hp.block b (bk_lt h)).trans h
theorem bk_alloc {w : World} {b : Nat} {o : Obj} (h : w.heap[b]? = some o) (o' : Obj) : (w.alloc o').heap[b]? = some o := bk_pur h ((Pur.refl w).alloc o')
theorem bk_new (w : World) (o : Obj) : (w.alloc o).heap[w.heap.size]? = some o := Array.getElem?_push_size
theorem bk_set {w : World} {b : Nat} {cur : Array Value} {e : TypeId} (h : w.heap[b]? = some (.cells cur e (0, 0))) (i : Nat) (v : Value) : (w.setCell ⟨b, i, none⟩ v).heap[b]? = some (.cells (cur.setIfInBounds i v) e (0, 0)) := by
  simp [World.setCell, Array.getElem?_modify, h]
theorem bk_other {w : World} {b : Nat} {o : Obj} (h : w.heap[b]? = some o) {a : Addr} (hne : b ≠ a.block) (v : Value) : (w.setCell a v).heap[b]? = some o := by
  rw [RowKit.Below.heap_setCell _ _ _ _ hne]; exact h
theorem bk_free {w : World} {b : Nat} {cur : Array Value} {e : TypeId} (h : w.heap[b]? = some (.cells cur e (0, 0))) (i : Nat) : w.frozen? ⟨b, i, none⟩ = false := by
  simp [World.frozen?, h]
theorem row_shape {w : World} {B : Nat} {e : TypeId} {k : Nat} {v : Value} {n : Nat} {xs : List Value} (h : w.ownsRow B e k v n xs) : ∃ a c, v = .slice a n c := by
  rcases h.2 with ⟨e, h0⟩ | ⟨g, cap, cur, e, _⟩
  · exact ⟨none, 0, by rw [e, h0]⟩
  · exact ⟨_, _, e⟩
set_option maxRecDepth 100000 in
set_option maxHeartbeats 2000000 in
theorem add_any (s : Hs) (o : Nat) (x : Ob) (kv iv mv : Value) (c : Int) (w : World) (h : HpAt w s)
    (ho : w.heap[o]? = some (.cells #[.int .i64 x.kind, .int .i64 x.proto, .int .i64 x.a, .int .i64 x.b, .int .i64 x.scope, kv, mv, iv] 78 (0, 0)))
    (hos : o ∉ s.blocks) (hk : x.keys = []) (hkv : kv = .slice none 0 0) (hpp : x.props = fun _ => none)
    (hiv : w.ownsRow 0 33 4 iv x.items.length (x.items.flatMap Va.cells)) (hiv1 : iv.ownBlock ≠ some o) (hiv2 : ∀ b, iv.ownBlock = some b → b ∉ s.blocks) (hc : 0 ≤ c) (hl : 0 ≤ s.left) (hl2 : s.left ≤ 10000) (hn : s.ps.length ≤ 1000000) :
    Calls Tryd.prog 38 #[.pointer (some ⟨s.h, 0, none⟩), .pointer (some ⟨o, 0, none⟩), .int .i64 c] w fun e w' => (s.left < c ∧ e = .returned (.tuple #[.int .i64 0, .int .i64 112]) ∧ w = w') ∨
      (c ≤ s.left ∧ e = .returned (.tuple #[.int .i64 s.ps.length, .int .i64 0]) ∧ ∃ v', HpAt w' (s.push v' c ⟨o, w.heap.size, kv, iv⟩ x) ∧ Chg (o :: s.blocks) w w' ∧ (v'.ownBlock = s.ov.ownBlock ∨ v'.ownBlock = some (w.heap.size + 2))) := by
  have c0 := h.cell0
  have c1 := h.cell1
  obtain ⟨i0, hi, hz⟩ := Option.map_eq_some_iff.1 ptr_info
  simp only [Prod.mk.injEq] at hz
  obtain ⟨hz0, hz1, hz2⟩ := hz
  obtain ⟨z0, hz0, hzs⟩ := Option.map_eq_some_iff.1 hz0
  have hne : o ≠ s.h := fun e => hos (by rw [e]; simp [Hs.blocks])
  by_cases hlt : s.left < c
  · clear ho h
    go_enter Tryd.func38, Tryd.ntmps38
    go_wp2
    go_ret2
    exact .inl ⟨hlt, rfl, rfl⟩
  · have f1 := bk_free h.own 1
    have B1h := bk_set h.own 1 (.int .i64 (s.left - c))
    have B1o := bk_other ho (a := ⟨s.h, 1, none⟩) hne (.int .i64 (s.left - c))
    have B2h := bk_alloc B1h (.map #[] 0)
    have B2o := bk_alloc B1o (.map #[] 0)
    have k6 := bk_cell B2o 6 mv rfl
    have f6 := bk_free B2o 6
    have B3h := bk_other B2h (a := ⟨o, 6, none⟩) (Ne.symm hne) (.map (some w.heap.size))
    have B3o := bk_set B2o 6 (.map (some w.heap.size))
    have k0 := bk_cell B3h 0 s.ov rfl
    have B4h := bk_alloc B3h (.cells #[.pointer (some ⟨o, 0, none⟩)] 74)
    have B4o := bk_alloc B3o (.cells #[.pointer (some ⟨o, 0, none⟩)] 74)
    have hap := h.apart
    unfold Hs.blocks at hap
    rw [List.nodup_cons] at hap
    have G4 : ∀ g, g < w.heap.size → g ≠ s.h → g ≠ o → ((((w.setCell ⟨s.h, 1, none⟩ (.int .i64 (s.left - c))).alloc (.map #[] 0)).setCell ⟨o, 6, none⟩ (.map (some w.heap.size))).alloc (.cells #[.pointer (some ⟨o, 0, none⟩)] 74)).heap[g]? = w.heap[g]? := fun g hg h1 h2 => by
      have hx : w.heap[g]? = some w.heap[g] := Array.getElem?_eq_getElem hg
      rw [hx]
      exact bk_alloc (bk_other (bk_alloc (bk_other hx (a := ⟨s.h, 1, none⟩) h1 _) _) (a := ⟨o, 6, none⟩) h2 _) _
    have H4 : some s.h ≠ s.ov.ownBlock := fun e => hap.1 (List.mem_append_left _ (by rw [← e]; simp))
    have O4 : some o ≠ s.ov.ownBlock := fun e => hos (by unfold Hs.blocks; exact List.mem_cons_of_mem _ (List.mem_append_left _ (by rw [← e]; simp)))
    have R4 := World.ownsRow_same h.row (fun g hg => G4 g (h.row.lt g hg).2 (fun e => H4 (by rw [hg, e])) (fun e => O4 (by rw [hg, e])))
    have wr : IntKind.i64.wrap (s.left - c) = s.left - c := IntWalk.i64_in _ (by omega)
    go_enter Tryd.func38, Tryd.ntmps38
    go_wp2_with (at_builtin; refine wpList_append_own_at _ rfl _ _ 70 rfl 0 74 i0 z0 1 8 Tryd.underlying70 hi hz0 hz1 hz2 hzs (by decide) _ _ _ rfl R4 ⟨_, 0, none⟩ 1 1 [.pointer (some ⟨o, 0, none⟩)] rfl rfl ?c1 ?c2 ?c3 ?c4 ?c5 ?_)
    case c2 => rfl
    case c3 => unfold maxLen; omega
    case c4 => omega
    intro v5 w5 hown5 hgrow _ hid
    have B5h := (hgrow.block _ (bk_lt B4h) H4).trans B4h
    have B5o := (hgrow.block _ (bk_lt B4o) O4).trans B4o
    have f5 := bk_free B5h 0
    have k5 := bk_cell B5h 0 s.ov rfl
    obtain ⟨a5, c5, rfl⟩ := row_shape hown5
    have B6h := bk_set B5h 0 (.slice a5 (s.ps.length + 1) c5)
    have k6' := bk_cell B6h 0 _ rfl
    have hsz : ((((w.setCell ⟨s.h, 1, none⟩ (.int .i64 (s.left - c))).alloc (.map #[] 0)).setCell ⟨o, 6, none⟩ (.map (some w.heap.size))).alloc (.cells #[.pointer (some ⟨o, 0, none⟩)] 74)).heap.size = w.heap.size + 2 := by simp [World.setCell, World.alloc]
    have hown6 := World.ownsRow_same (w' := w5.setCell ⟨s.h, 0, none⟩ (.slice a5 (s.ps.length + 1) c5)) hown5 (fun g hg => by
      have hx := Array.getElem?_eq_getElem (hown5.lt g hg).2
      rw [hx]
      refine bk_other hx (a := ⟨s.h, 0, none⟩) (fun e => ?_) _
      rw [hg] at hid
      rcases hid with e' | e'
      · exact H4 (by rw [← e', e])
      · have := bk_lt h.own
        simp only [Option.some.injEq] at e'
        simp only at e
        omega)
    have K6 : ∀ b, b < w.heap.size → b ≠ s.h → s.ov.ownBlock ≠ some b → b ≠ o → (w5.setCell ⟨s.h, 0, none⟩ (.slice a5 (s.ps.length + 1) c5)).heap[b]? = w.heap[b]? := fun b hb h1 h2 h3 => by
      have hx := Array.getElem?_eq_getElem hb
      rw [hx]
      have e4 := G4 b hb h1 h3
      rw [hx] at e4
      exact bk_other ((hgrow.block b (by rw [hsz]; omega) (Ne.symm h2)).trans e4) (a := ⟨s.h, 0, none⟩) h1 _
    have B6o := bk_other B5o (a := ⟨s.h, 0, none⟩) hne (.slice a5 (s.ps.length + 1) c5)
    have M2 := bk_new (w.setCell ⟨s.h, 1, none⟩ (.int .i64 (s.left - c))) (.map #[] 0)
    have hs1 : (w.setCell ⟨s.h, 1, none⟩ (.int .i64 (s.left - c))).heap.size = w.heap.size := by simp [World.setCell]
    rw [hs1] at M2
    have M3 := bk_other M2 (a := ⟨o, 6, none⟩) (fun e => by have := bk_lt ho; simp only at e; omega) (.map (some w.heap.size))
    have M4 := bk_alloc M3 (.cells #[.pointer (some ⟨o, 0, none⟩)] 74)
    have M5 := (hgrow.block _ (bk_lt M4) (fun e => by have := (h.row.lt _ e.symm).2; omega)).trans M4
    have M6 := bk_other M5 (a := ⟨s.h, 0, none⟩) (fun e => by have := bk_lt h.own; simp only at e; omega) (.slice a5 (s.ps.length + 1) c5)
    have hb6 : ∀ b ∈ (Pl.mk o w.heap.size kv iv).blocks, b = o ∨ b = w.heap.size ∨ iv.ownBlock = some b := fun b hb => by
      rw [hkv] at hb
      simpa [Pl.blocks, Value.ownBlock] using hb
    have hres : HpAt (w5.setCell ⟨s.h, 0, none⟩ (.slice a5 (s.ps.length + 1) c5)) (s.push (.slice a5 (s.ps.length + 1) c5) c ⟨o, w.heap.size, kv, iv⟩ x) := by
      refine h.push K6 B6h hown6 ?_ ?_ ?_ ?_
      · rcases hid with e | e
        · exact .inl e
        · refine .inr ⟨_, e, by omega, fun hm => ?_⟩
          rcases hb6 _ hm with e | e | e
          · have := bk_lt ho; omega
          · omega
          · have := (hiv.lt _ e).2; omega
      · refine ⟨B6o, ?_, ?_, ?_⟩
        · rw [hk, hkv]; exact World.ownsRow_nil _ _ _ _
        · rw [hk, hpp]
          refine ⟨.map [], ⟨#[], 0, M6, ⟨by simp, MapKept.stamped_empty 0, by simp⟩, Nat.le_refl _, rfl⟩, fun k => ⟨rfl, fun z => rfl⟩⟩
        · refine World.ownsRow_same hiv (fun g hg => ?_)
          have h1 := (hiv.lt g hg).2
          refine K6 g h1 (fun e => hiv2 g hg (by rw [e]; simp [Hs.blocks])) (fun e => hiv2 g hg (by simp [Hs.blocks, e])) (fun e => hiv1 (by rw [hg, e]))
      · rw [hkv]
        have hlo := bk_lt ho
        have z : (Value.slice none 0 0).ownBlock = none := rfl
        rcases he : iv.ownBlock with _ | g
        · simp [Pl.blocks, z, he]; omega
        · have := (hiv.lt g he).2
          have h2 : g ≠ o := fun e => hiv1 (by rw [he, e])
          simp [Pl.blocks, z, he]
          omega
      · intro b hb
        rcases hb6 b hb with rfl | rfl | e
        · exact hos
        · intro hm; have := h.lt _ hm; omega
        · exact hiv2 b e
    have hchg : Chg (o :: s.blocks) w (w5.setCell ⟨s.h, 0, none⟩ (.slice a5 (s.ps.length + 1) c5)) := by
      refine ⟨by rw [show (w5.setCell ⟨s.h, 0, none⟩ (.slice a5 (s.ps.length + 1) c5)).os = w5.os from rfl, hgrow.os]; rfl, by rw [show (w5.setCell ⟨s.h, 0, none⟩ (.slice a5 (s.ps.length + 1) c5)).tape = w5.tape from rfl, hgrow.tape]; rfl, by rw [show (w5.setCell ⟨s.h, 0, none⟩ (.slice a5 (s.ps.length + 1) c5)).output = w5.output from rfl, hgrow.output]; rfl, ?_, ?_⟩
      · have := hgrow.size
        rw [hsz] at this
        simp only [World.setCell, Array.size_modify]
        omega
      · intro k hk' hn'
        simp only [List.mem_cons, not_or] at hn'
        refine K6 k hk' (fun e => hn'.2 (by rw [e]; simp [Hs.blocks])) (fun e => hn'.2 (by simp [Hs.blocks, e])) hn'.1
    have hid' : (Value.slice a5 (s.ps.length + 1) c5).ownBlock = s.ov.ownBlock ∨ (Value.slice a5 (s.ps.length + 1) c5).ownBlock = some (w.heap.size + 2) := hid
    have HF := Lib.hid (And.intro hres (And.intro hchg hid'))
    clear hres hchg hid' hid hown6 K6 B6o M2 M3 M4 M5 M6 hb6 G4 R4 hap B5o hown5 hgrow h ho hiv hiv1 hiv2 hos hk hkv hpp
    go_wp2
    go_ret2
    exact .inr ⟨by omega, by go_num, _, HF.out⟩
end Go.Proofs.YtfophnmnehpenaaDoor
