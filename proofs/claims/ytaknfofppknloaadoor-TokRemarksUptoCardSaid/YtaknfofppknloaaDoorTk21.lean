/- Tokens as they are read; the document's Same, at what is the same. -/
import Derived.Test.YtaknfofppknloaaDoorTkEq
import Derived.Test.YtaknfofppknloaaDoorTkPure7
namespace Go.Proofs.YtaknfofppknloaaDoor
open Go Go.RowKit
set_option linter.all false
namespace Tk
/-- v reads as these attributes -/
def ARead (w : World) (v : Value) (l : List AttrV) : Prop :=
  ∃ a c, v = .slice a l.length c ∧ (l.length ≤ c ∧ l.length ≤ 9223372036854775807) ∧ ∀ (i : Nat) x, l[i]? = some x → ∃ g, a = some ⟨g, 0, none⟩ ∧ g < w.heap.size ∧
    w.cell? ⟨g, i * 4, none⟩ = some (.string ⟨x.nm.toArray⟩) ∧ w.cell? ⟨g, i * 4 + 1, none⟩ = some (.string ⟨x.val.toArray⟩) ∧
    w.cell? ⟨g, i * 4 + 2, none⟩ = some (.int .i64 (x.at_.1 : Int)) ∧ w.cell? ⟨g, i * 4 + 3, none⟩ = some (.int .i64 (x.at_.2 : Int))
/-- v reads as these tokens -/
def TRead (w : World) (v : Value) (ts : List TokV) : Prop :=
  ∃ a c, v = .slice a ts.length c ∧ (ts.length ≤ c ∧ ts.length ≤ 9223372036854775807) ∧ ∀ (i : Nat) t, ts[i]? = some t → ∃ g av, a = some ⟨g, 0, none⟩ ∧ g < w.heap.size ∧
    w.cell? ⟨g, i * 7, none⟩ = some (.int .i64 (t.kind : Int)) ∧ w.cell? ⟨g, i * 7 + 1, none⟩ = some (.string ⟨t.nm.toArray⟩) ∧
    w.cell? ⟨g, i * 7 + 2, none⟩ = some av ∧ w.cell? ⟨g, i * 7 + 3, none⟩ = some (.string ⟨t.text.toArray⟩) ∧
    w.cell? ⟨g, i * 7 + 4, none⟩ = some (.int .i64 (t.at_.1 : Int)) ∧ w.cell? ⟨g, i * 7 + 5, none⟩ = some (.int .i64 (t.at_.2 : Int)) ∧
    w.cell? ⟨g, i * 7 + 6, none⟩ = some (.bool t.empty) ∧ ARead w av t.attrs
theorem ARead.pur {w w' : World} {v : Value} {l : List AttrV} (h : ARead w v l) (hp : Pur w w') : ARead w' v l := by
  obtain ⟨a, c, h1, h2, h3⟩ := h
  refine ⟨a, c, h1, h2, fun i x hx => ?_⟩
  obtain ⟨g, e, hg, k0, k1, k2, k3⟩ := h3 i x hx
  exact ⟨g, e, Nat.lt_of_lt_of_le hg hp.size, (hp.cell hg).trans k0, (hp.cell hg).trans k1, (hp.cell hg).trans k2, (hp.cell hg).trans k3⟩
theorem TRead.pur {w w' : World} {v : Value} {l : List TokV} (h : TRead w v l) (hp : Pur w w') : TRead w' v l := by
  obtain ⟨a, c, h1, h2, h3⟩ := h
  refine ⟨a, c, h1, h2, fun i x hx => ?_⟩
  obtain ⟨g, av, e, hg, k0, k1, k2, k3, k4, k5, k6, k7⟩ := h3 i x hx
  exact ⟨g, av, e, Nat.lt_of_lt_of_le hg hp.size, (hp.cell hg).trans k0, (hp.cell hg).trans k1, (hp.cell hg).trans k2, (hp.cell hg).trans k3, (hp.cell hg).trans k4, (hp.cell hg).trans k5, (hp.cell hg).trans k6, k7.pur hp⟩
theorem add_z (g j : Nat) : (Addr.mk g 0 none).add j = ⟨g, j, none⟩ := by
  unfold Addr.add; split <;> simp_all
theorem ARead.of_own {w : World} {v : Value} {l : List AttrV} (h : w.ownsRow 0 35 4 v l.length (l.flatMap AttrV.cells)) : ARead w v l := by
  rcases h.2 with ⟨rfl, h0⟩ | ⟨g, cap, cur, rfl, hb, hg, hn, hcm, _⟩
  · obtain rfl : l = [] := List.length_eq_zero_iff.1 h0
    exact ⟨none, 0, rfl, ⟨Nat.le_refl _, by simp⟩, fun i x hx => by simp at hx⟩
  · refine ⟨_, _, rfl, ⟨hn, by unfold maxLen at hcm; omega⟩, fun i x hx => ⟨g, rfl, bk_lt hg, ?_, ?_, ?_, ?_⟩⟩
    all_goals
      have hc := h.cells (g := g) rfl
      simp only [add_z] at hc
    · exact hc (i * 4) _ (by rw [Nat.mul_comm i 4]; have := attr_cells l i 0 x hx (by omega); simpa [AttrV.cells] using this)
    · exact hc (i * 4 + 1) _ (by rw [Nat.mul_comm i 4]; have := attr_cells l i 1 x hx (by omega); simpa [AttrV.cells] using this)
    · exact hc (i * 4 + 2) _ (by rw [Nat.mul_comm i 4]; have := attr_cells l i 2 x hx (by omega); simpa [AttrV.cells] using this)
    · exact hc (i * 4 + 3) _ (by rw [Nat.mul_comm i 4]; have := attr_cells l i 3 x hx (by omega); simpa [AttrV.cells] using this)
theorem tok_cells : ∀ (avs : List Value) (ts : List TokV) (k i : Nat) (av : Value) (t : TokV), avs[k]? = some av → ts[k]? = some t → i < 7 → (tokCells avs ts)[7 * k + i]? = (t.cells av)[i]?
  | [], ts, k, i, av, t, h, _, _ => by simp at h
  | a :: avs, [], k, i, av, t, _, h, _ => by simp at h
  | a :: avs, s :: ts, 0, i, av, t, h, h2, hi => by
    obtain rfl : a = av := by simpa using h
    obtain rfl : s = t := by simpa using h2
    unfold tokCells
    rw [List.zip_cons_cons, List.flatMap_cons, List.getElem?_append_left (by simp [TokV.cells]; omega)]
    simp
  | a :: avs, s :: ts, k + 1, i, av, t, h, h2, hi => by
    have := tok_cells avs ts k i av t (by simpa using h) (by simpa using h2) hi
    unfold tokCells at this ⊢
    have hl : (s.cells a).length = 7 := rfl
    rw [List.zip_cons_cons, List.flatMap_cons, List.getElem?_append_right (by rw [hl]; omega), hl, show 7 * (k + 1) + i - 7 = 7 * k + i by omega]
    exact this
theorem TokRow.read {w : World} {B : Nat} {v : Value} {avs : List Value} {ts : List TokV} (h : TokRow w B v avs ts) : TRead w v ts := by
  have ha := h.attrs
  have hl := h.len
  rcases h.toks.2 with ⟨rfl, h0⟩ | ⟨g, cap, cur, rfl, hb, hg, hn, hcm, _⟩
  · obtain rfl : ts = [] := List.length_eq_zero_iff.1 h0
    exact ⟨none, 0, rfl, ⟨Nat.le_refl _, by simp⟩, fun i x hx => by simp at hx⟩
  · refine ⟨_, _, rfl, ⟨hn, by unfold maxLen at hcm; omega⟩, fun i t ht => ?_⟩
    obtain ⟨av, hav⟩ : ∃ av, avs[i]? = some av := by
      have := (List.getElem?_eq_some_iff.1 ht).1
      exact ⟨avs[i]'(by omega), List.getElem?_eq_getElem _⟩
    have hc := h.toks.cells (g := g) rfl
    simp only [add_z] at hc
    have hk := fun k (hk : k < 7) => tok_cells avs ts i k av t hav ht hk
    refine ⟨g, av, rfl, bk_lt hg, hc (i * 7) _ ?_, hc (i * 7 + 1) _ ?_, hc (i * 7 + 2) _ ?_, hc (i * 7 + 3) _ ?_, hc (i * 7 + 4) _ ?_, hc (i * 7 + 5) _ ?_, hc (i * 7 + 6) _ ?_, .of_own (ha i av t hav ht)⟩
    · rw [Nat.mul_comm i 7]; have := hk 0 (by omega); simpa [TokV.cells] using this
    · rw [Nat.mul_comm i 7]; have := hk 1 (by omega); simpa [TokV.cells] using this
    · rw [Nat.mul_comm i 7]; have := hk 2 (by omega); simpa [TokV.cells] using this
    · rw [Nat.mul_comm i 7]; have := hk 3 (by omega); simpa [TokV.cells] using this
    · rw [Nat.mul_comm i 7]; have := hk 4 (by omega); simpa [TokV.cells] using this
    · rw [Nat.mul_comm i 7]; have := hk 5 (by omega); simpa [TokV.cells] using this
    · rw [Nat.mul_comm i 7]; have := hk 6 (by omega); simpa [TokV.cells] using this
/-- a token by value -/
def TokV.val (av : Value) (t : TokV) : Value := .agg (t.cells av).toArray
@[go_sem] theorem posEq_self (a : P2) : posEq a a = true := by simp [posEq]
set_option maxRecDepth 100000 in
set_option maxHeartbeats 4000000 in
theorem sametok_any (s t : TokV) (av bv : Value) (w : World) (pl : Bool) (ha : ARead w av s.attrs) (hb : ARead w bv t.attrs) (h : s.bare = t.bare)
    (hp : pl = true → s.at_ = t.at_ ∧ s.attrs.map AttrV.at_ = t.attrs.map AttrV.at_) :
    Calls Tryd.prog 16 #[s.val av, t.val bv, .bool pl] w fun e w' => e = .returned (.bool true) ∧ Pur w w' := by
  obtain ⟨sk, sn, sa, st, sp, se⟩ := s
  obtain ⟨tk, tn, ta, tt, tp, te⟩ := t
  unfold TokV.bare at h
  simp only [Prod.mk.injEq] at h
  obtain ⟨rfl, rfl, hat, rfl, rfl⟩ := h
  simp only at hp ha hb
  have hlen : sa.length = ta.length := by simpa using congrArg List.length hat
  obtain ⟨aa, ac, rfl, ⟨hac, ham⟩, HA⟩ := id ha
  obtain ⟨ba, bc, rfl, ⟨hbc, hbm⟩, HB⟩ := id hb
  unfold TokV.val TokV.cells
  simp only [hlen] at ha hac ⊢
  obtain ⟨W0, hW0⟩ : ∃ W0, W0 = (w.alloc (.cells #[.int .i64 (sk : Int), .string ⟨sn.toArray⟩, .slice aa ta.length ac, .string ⟨st.toArray⟩, .int .i64 (sp.1 : Int), .int .i64 (sp.2 : Int), .bool se] 32)).alloc (.cells #[.int .i64 (sk : Int), .string ⟨sn.toArray⟩, .slice ba ta.length bc, .string ⟨st.toArray⟩, .int .i64 (tp.1 : Int), .int .i64 (tp.2 : Int), .bool se] 32) := ⟨_, rfl⟩
  have hP : Pur w W0 := by rw [hW0]; exact ((Pur.refl w).alloc _).alloc _
  have b0 : W0.heap[w.heap.size]? = some (.cells #[.int .i64 (sk : Int), .string ⟨sn.toArray⟩, .slice aa ta.length ac, .string ⟨st.toArray⟩, .int .i64 (sp.1 : Int), .int .i64 (sp.2 : Int), .bool se] 32 (0, 0)) := by rw [hW0]; exact bk_alloc (bk_new w _) _
  have b1 : W0.heap[w.heap.size + 1]? = some (.cells #[.int .i64 (sk : Int), .string ⟨sn.toArray⟩, .slice ba ta.length bc, .string ⟨st.toArray⟩, .int .i64 (tp.1 : Int), .int .i64 (tp.2 : Int), .bool se] 32 (0, 0)) := by
    have hs : (w.alloc (.cells #[.int .i64 (sk : Int), .string ⟨sn.toArray⟩, .slice aa ta.length ac, .string ⟨st.toArray⟩, .int .i64 (sp.1 : Int), .int .i64 (sp.2 : Int), .bool se] 32)).heap.size = w.heap.size + 1 := Array.size_push _
    rw [hW0, ← hs]; exact bk_new _ _
  have BX : ∀ wr, Pur W0 wr → wr.cell? ⟨w.heap.size, 2, none⟩ = some (.slice aa ta.length ac) ∧ wr.cell? ⟨w.heap.size + 1, 2, none⟩ = some (.slice ba ta.length bc) := fun wr hr => ⟨bk_cell (bk_pur b0 hr) 2 _ rfl, bk_cell (bk_pur b1 hr) 2 _ rfl⟩
  have ha' := ha.pur hP
  have hb' := hb.pur hP
  have AT : ∀ n, n < ta.length → ∃ a b : AttrV, a.nm = b.nm ∧ a.val = b.val ∧ (pl = true → a.at_ = b.at_) ∧ sa[n]? = some a ∧ ta[n]? = some b := fun n hn => by
    have hn' : n < sa.length := by omega
    refine ⟨sa[n], ta[n], ?_, ?_, ?_, List.getElem?_eq_getElem _, List.getElem?_eq_getElem _⟩
    · have := congrArg (fun l => l[n]?) hat
      simp only [List.getElem?_map, List.getElem?_eq_getElem hn', List.getElem?_eq_getElem hn, Option.map_some, Option.some.injEq, Prod.mk.injEq] at this
      exact this.1
    · have := congrArg (fun l => l[n]?) hat
      simp only [List.getElem?_map, List.getElem?_eq_getElem hn', List.getElem?_eq_getElem hn, Option.map_some, Option.some.injEq, Prod.mk.injEq] at this
      exact this.2
    · intro e
      have := congrArg (fun l => l[n]?) (hp e).2
      simpa only [List.getElem?_map, List.getElem?_eq_getElem hn', List.getElem?_eq_getElem hn, Option.map_some, Option.some.injEq] using this
  have hlen := Lib.hid hlen
  rcases pl with _ | _
  · skip
    clear hat hp b0 b1 ha hb HA HB
    go_enter Tryd.func16, Tryd.ntmps16
    go_wp2
    rw [← hW0]
    clear hW0
    go_loopw [7] (fun k wr => ∃ n : Nat, n ≤ ta.length ∧ k = .int .i64 n ∧ Pur W0 wr) (fun k _ => ta.length + 1 - (intOf k).toNat)
    case atStart => exact ⟨0, by omega, rfl, Pur.refl W0⟩
    case round =>
      obtain ⟨n, hn, rfl, hpr⟩ := hrel
      obtain ⟨q0, q1⟩ := BX wr hpr
      by_cases hlt : n < ta.length
      · have hlt2 : (n : Int) < ta.length := by omega
        have hac' : (ta.length : Int) ≤ ac := by omega
        have wn : IntKind.i64.wrap ((n : Int) + 1) = (n : Int) + 1 := IntWalk.i64_in _ (by omega)
        obtain ⟨a, b, e1, e2, e3, h1, h2⟩ := AT n hlt
        obtain ⟨aa', ac', e4, -, HA⟩ := ha'.pur hpr
        obtain ⟨ba', bc', e5, -, HB⟩ := hb'.pur hpr
        simp only [Value.slice.injEq] at e4 e5
        obtain ⟨rfl, -, rfl⟩ := e4
        obtain ⟨rfl, -, rfl⟩ := e5
        obtain ⟨ga, rfl, hga, k0, k1, k2, k3⟩ := HA n a h1
        obtain ⟨gb, rfl, hgb, l0, l1, l2, l3⟩ := HB n b h2
        have B : ∀ x : PW wr, x.to.cell? ⟨w.heap.size, 2, none⟩ = some (.slice (some ⟨ga, 0, none⟩) ta.length ac) ∧ x.to.cell? ⟨w.heap.size + 1, 2, none⟩ = some (.slice (some ⟨gb, 0, none⟩) ta.length bc) := fun x => BX x.to (hpr.trans x.pur)
        have B0 := fun x => (B x).1
        have B1 := fun x => (B x).2
        have K0 : ∀ x : PW wr, x.to.cell? ⟨ga, n * 4, none⟩ = _ := fun x => (x.pur.cell hga).trans k0
        have K1 : ∀ x : PW wr, x.to.cell? ⟨ga, n * 4 + 1, none⟩ = _ := fun x => (x.pur.cell hga).trans k1
        have K2 : ∀ x : PW wr, x.to.cell? ⟨ga, n * 4 + 2, none⟩ = _ := fun x => (x.pur.cell hga).trans k2
        have K3 : ∀ x : PW wr, x.to.cell? ⟨ga, n * 4 + 3, none⟩ = _ := fun x => (x.pur.cell hga).trans k3
        have L0 : ∀ x : PW wr, x.to.cell? ⟨gb, n * 4, none⟩ = _ := fun x => (x.pur.cell hgb).trans l0
        have L1 : ∀ x : PW wr, x.to.cell? ⟨gb, n * 4 + 1, none⟩ = _ := fun x => (x.pur.cell hgb).trans l1
        have L2 : ∀ x : PW wr, x.to.cell? ⟨gb, n * 4 + 2, none⟩ = _ := fun x => (x.pur.cell hgb).trans l2
        have L3 : ∀ x : PW wr, x.to.cell? ⟨gb, n * 4 + 3, none⟩ = _ := fun x => (x.pur.cell hgb).trans l3
        rw [e1] at K0
        rw [e2] at K1
        clear k0 k1 k2 k3 l0 l1 l2 l3 HA HB B AT BX ha' hb' h1 h2 e1 e2 e3
        go_wp2
        refine wp_region_pur (by kernel_rfl) (by kernel_rfl) ?_
        repeat (go_big_quiet_step (fail))
        refine wpQuiet_nil ?_
        intro wq hq
        go_wp2
        go_roundw
        case rel => exact ⟨n + 1, by omega, by go_num, hpr.trans hq⟩
        case measure => simp [intOf]; omega
      · obtain rfl : n = ta.length := by omega
        clear AT BX ha' hb'
        go_wp2
        go_ret
        exact ⟨rfl, hP.trans hpr⟩
  · obtain ⟨rfl, -⟩ := hp rfl
    clear hat hp b0 b1 ha hb HA HB
    go_enter Tryd.func16, Tryd.ntmps16
    go_wp2
    rw [← hW0]
    clear hW0
    go_loopw [7] (fun k wr => ∃ n : Nat, n ≤ ta.length ∧ k = .int .i64 n ∧ Pur W0 wr) (fun k _ => ta.length + 1 - (intOf k).toNat)
    case atStart => exact ⟨0, by omega, rfl, Pur.refl W0⟩
    case round =>
      obtain ⟨n, hn, rfl, hpr⟩ := hrel
      obtain ⟨q0, q1⟩ := BX wr hpr
      by_cases hlt : n < ta.length
      · have hlt2 : (n : Int) < ta.length := by omega
        have hac' : (ta.length : Int) ≤ ac := by omega
        have wn : IntKind.i64.wrap ((n : Int) + 1) = (n : Int) + 1 := IntWalk.i64_in _ (by omega)
        obtain ⟨a, b, e1, e2, e3, h1, h2⟩ := AT n hlt
        obtain ⟨aa', ac', e4, -, HA⟩ := ha'.pur hpr
        obtain ⟨ba', bc', e5, -, HB⟩ := hb'.pur hpr
        simp only [Value.slice.injEq] at e4 e5
        obtain ⟨rfl, -, rfl⟩ := e4
        obtain ⟨rfl, -, rfl⟩ := e5
        obtain ⟨ga, rfl, hga, k0, k1, k2, k3⟩ := HA n a h1
        obtain ⟨gb, rfl, hgb, l0, l1, l2, l3⟩ := HB n b h2
        have B : ∀ x : PW wr, x.to.cell? ⟨w.heap.size, 2, none⟩ = some (.slice (some ⟨ga, 0, none⟩) ta.length ac) ∧ x.to.cell? ⟨w.heap.size + 1, 2, none⟩ = some (.slice (some ⟨gb, 0, none⟩) ta.length bc) := fun x => BX x.to (hpr.trans x.pur)
        have B0 := fun x => (B x).1
        have B1 := fun x => (B x).2
        have K0 : ∀ x : PW wr, x.to.cell? ⟨ga, n * 4, none⟩ = _ := fun x => (x.pur.cell hga).trans k0
        have K1 : ∀ x : PW wr, x.to.cell? ⟨ga, n * 4 + 1, none⟩ = _ := fun x => (x.pur.cell hga).trans k1
        have K2 : ∀ x : PW wr, x.to.cell? ⟨ga, n * 4 + 2, none⟩ = _ := fun x => (x.pur.cell hga).trans k2
        have K3 : ∀ x : PW wr, x.to.cell? ⟨ga, n * 4 + 3, none⟩ = _ := fun x => (x.pur.cell hga).trans k3
        have L0 : ∀ x : PW wr, x.to.cell? ⟨gb, n * 4, none⟩ = _ := fun x => (x.pur.cell hgb).trans l0
        have L1 : ∀ x : PW wr, x.to.cell? ⟨gb, n * 4 + 1, none⟩ = _ := fun x => (x.pur.cell hgb).trans l1
        have L2 : ∀ x : PW wr, x.to.cell? ⟨gb, n * 4 + 2, none⟩ = _ := fun x => (x.pur.cell hgb).trans l2
        have L3 : ∀ x : PW wr, x.to.cell? ⟨gb, n * 4 + 3, none⟩ = _ := fun x => (x.pur.cell hgb).trans l3
        rw [e1] at K0
        rw [e2] at K1
        rw [e3 (by trivial)] at K2 K3
        clear k0 k1 k2 k3 l0 l1 l2 l3 HA HB B AT BX ha' hb' h1 h2 e1 e2 e3
        go_wp2
        refine wp_region_pur (by kernel_rfl) (by kernel_rfl) ?_
        repeat (go_big_quiet_step (fail))
        refine wpQuiet_nil ?_
        intro wq hq
        go_wp2
        go_roundw
        case rel => exact ⟨n + 1, by omega, by go_num, hpr.trans hq⟩
        case measure => simp [intOf]; omega
      · obtain rfl : n = ta.length := by omega
        clear AT BX ha' hb'
        go_wp2
        go_ret
        exact ⟨rfl, hP.trans hpr⟩
end Tk
end Go.Proofs.YtaknfofppknloaaDoor
