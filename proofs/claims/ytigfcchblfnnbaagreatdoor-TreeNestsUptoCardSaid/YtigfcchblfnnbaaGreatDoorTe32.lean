/- Layer 3: the document's Same, at what is the same. -/
import Derived.Test.YtigfcchblfnnbaaGreatDoorTeF
import Derived.Test.YtigfcchblfnnbaaGreatDoorTkH
import Derived.Test.YtigfcchblfnnbaaGreatDoorTeP
import Derived.Test.YtigfcchblfnnbaaGreatDoorTbE
namespace Go.Proofs.YtigfcchblfnnbaaGreatDoor
open Go Go.RowKit
set_option linter.all false
namespace Te
open Tk (P2 posEq posEq_self add_z)
/-- v reads as these attributes; their places too, where pl says so -/
def XReadQ (pl : Bool) (w : World) (v : Value) (l : List ExV) : Prop :=
  ∃ a c, v = .slice a l.length c ∧ (l.length ≤ c ∧ l.length ≤ 9223372036854775807) ∧ ∀ (i : Nat) x, l[i]? = some x → ∃ g o, ∃ p q : Int, a = some ⟨g, o, none⟩ ∧ g < w.heap.size ∧
    w.cell? ⟨g, o + i * 5, none⟩ = some (.string ⟨x.sp.toArray⟩) ∧ w.cell? ⟨g, o + i * 5 + 1, none⟩ = some (.string ⟨x.lo.toArray⟩) ∧
    w.cell? ⟨g, o + i * 5 + 2, none⟩ = some (.string ⟨x.val.toArray⟩) ∧ w.cell? ⟨g, o + i * 5 + 3, none⟩ = some (.int .i64 p) ∧ w.cell? ⟨g, o + i * 5 + 4, none⟩ = some (.int .i64 q) ∧ (pl = true → p = x.at_.1 ∧ q = x.at_.2)
def NReadQ (pl : Bool) (w : World) (v : Value) (ns : List NodeV) : Prop :=
  ∃ a c, v = .slice a ns.length c ∧ (ns.length ≤ c ∧ ns.length ≤ 9223372036854775807) ∧ ∀ (i : Nat) n, ns[i]? = some n → ∃ g o ev, ∃ p q : Int, a = some ⟨g, o, none⟩ ∧ g < w.heap.size ∧
    w.cell? ⟨g, o + i * 7, none⟩ = some (.string ⟨n.sp.toArray⟩) ∧ w.cell? ⟨g, o + i * 7 + 1, none⟩ = some (.string ⟨n.lo.toArray⟩) ∧
    w.cell? ⟨g, o + i * 7 + 2, none⟩ = some ev ∧ w.cell? ⟨g, o + i * 7 + 3, none⟩ = some (.string ⟨n.text.toArray⟩) ∧
    w.cell? ⟨g, o + i * 7 + 4, none⟩ = some (.int .i64 n.par) ∧ w.cell? ⟨g, o + i * 7 + 5, none⟩ = some (.int .i64 p) ∧ w.cell? ⟨g, o + i * 7 + 6, none⟩ = some (.int .i64 q) ∧ XReadQ pl w ev n.ex ∧ (pl = true → p = n.at_.1 ∧ q = n.at_.2)
theorem XReadQ.pur {pl : Bool} {w w' : World} {v : Value} {l : List ExV} (h : XReadQ pl w v l) (hp : Pur w w') : XReadQ pl w' v l := by
  obtain ⟨a, c, e, hc, h⟩ := h
  refine ⟨a, c, e, hc, fun i x hx => ?_⟩
  obtain ⟨g, o, p, q, e2, hg, k0, k1, k2, k3, k4, k5⟩ := h i x hx
  exact ⟨g, o, p, q, e2, Nat.lt_of_lt_of_le hg hp.size, cell_pur k0 hp, cell_pur k1 hp, cell_pur k2 hp, cell_pur k3 hp, cell_pur k4 hp, k5⟩
theorem NReadQ.pur {pl : Bool} {w w' : World} {v : Value} {l : List NodeV} (h : NReadQ pl w v l) (hp : Pur w w') : NReadQ pl w' v l := by
  obtain ⟨a, c, e, hc, h⟩ := h
  refine ⟨a, c, e, hc, fun i x hx => ?_⟩
  obtain ⟨g, o, ev, p, q, e2, hg, k0, k1, k2, k3, k4, k5, k6, k7, k8⟩ := h i x hx
  exact ⟨g, o, ev, p, q, e2, Nat.lt_of_lt_of_le hg hp.size, cell_pur k0 hp, cell_pur k1 hp, cell_pur k2 hp, cell_pur k3 hp, cell_pur k4 hp, cell_pur k5 hp, cell_pur k6 hp, k7.pur hp, k8⟩
theorem XReadQ.less {pl : Bool} {w : World} {v : Value} {l : List ExV} (h : XReadQ pl w v l) : XRead w v l := by
  obtain ⟨a, c, e, hc, h⟩ := h
  refine ⟨a, c, e, hc, fun i x hx => ?_⟩
  obtain ⟨g, o, p, q, e2, hg, k0, k1, k2, k3, k4, k5⟩ := h i x hx
  exact ⟨g, o, p, q, e2, hg, k0, k1, k2, k3, k4⟩
theorem NReadQ.less {pl : Bool} {w : World} {v : Value} {l : List NodeV} (h : NReadQ pl w v l) : NRead w v l := by
  obtain ⟨a, c, e, hc, h⟩ := h
  refine ⟨a, c, e, hc, fun i x hx => ?_⟩
  obtain ⟨g, o, ev, p, q, e2, hg, k0, k1, k2, k3, k4, k5, k6, k7, k8⟩ := h i x hx
  exact ⟨g, o, ev, p, q, e2, hg, k0, k1, k2, k3, k4, k5, k6, k7.less⟩
theorem XRead.q {w : World} {v : Value} {l : List ExV} (h : XRead w v l) : XReadQ false w v l := by
  obtain ⟨a, c, e, hc, h⟩ := h
  refine ⟨a, c, e, hc, fun i x hx => ?_⟩
  obtain ⟨g, o, p, q, e2, hg, k0, k1, k2, k3, k4⟩ := h i x hx
  exact ⟨g, o, p, q, e2, hg, k0, k1, k2, k3, k4, fun h => by cases h⟩
theorem NRead.q {w : World} {v : Value} {l : List NodeV} (h : NRead w v l) : NReadQ false w v l := by
  obtain ⟨a, c, e, hc, h⟩ := h
  refine ⟨a, c, e, hc, fun i x hx => ?_⟩
  obtain ⟨g, o, ev, p, q, e2, hg, k0, k1, k2, k3, k4, k5, k6, k7⟩ := h i x hx
  exact ⟨g, o, ev, p, q, e2, hg, k0, k1, k2, k3, k4, k5, k6, k7.q, fun h => by cases h⟩
theorem XReadQ.of_own {B : Nat} {w : World} {v : Value} {l : List ExV} (h : w.ownsRow B 81 5 v l.length (l.flatMap ExV.cells)) : XReadQ true w v l := by
  rcases h.2 with ⟨rfl, h0⟩ | ⟨g, cap, cur, rfl, hb, hg, hn, hcm, _⟩
  · obtain rfl : l = [] := List.length_eq_zero_iff.1 h0
    exact ⟨none, 0, rfl, ⟨Nat.le_refl _, by simp⟩, fun i x hx => by simp at hx⟩
  · refine ⟨_, _, rfl, ⟨hn, by unfold maxLen at hcm; omega⟩, fun i x hx => ⟨g, 0, _, _, rfl, bk_lt hg, ?_, ?_, ?_, ?_, ?_, fun _ => ⟨rfl, rfl⟩⟩⟩
    all_goals
      have hc := h.cells (g := g) rfl
      simp only [add_z] at hc
      rw [Nat.zero_add]
    · exact hc (i * 5) _ (by rw [Nat.mul_comm i 5]; have := flat_cells ExV.cells 5 (fun _ => rfl) l i 0 x hx (by omega); simpa [ExV.cells] using this)
    · exact hc (i * 5 + 1) _ (by rw [Nat.mul_comm i 5]; have := flat_cells ExV.cells 5 (fun _ => rfl) l i 1 x hx (by omega); simpa [ExV.cells] using this)
    · exact hc (i * 5 + 2) _ (by rw [Nat.mul_comm i 5]; have := flat_cells ExV.cells 5 (fun _ => rfl) l i 2 x hx (by omega); simpa [ExV.cells] using this)
    · exact hc (i * 5 + 3) _ (by rw [Nat.mul_comm i 5]; have := flat_cells ExV.cells 5 (fun _ => rfl) l i 3 x hx (by omega); simpa [ExV.cells] using this)
    · exact hc (i * 5 + 4) _ (by rw [Nat.mul_comm i 5]; have := flat_cells ExV.cells 5 (fun _ => rfl) l i 4 x hx (by omega); simpa [ExV.cells] using this)
theorem second_new (w : World) (o o2 : Obj) : (((w.alloc o).alloc o2).drew).heap[w.heap.size + 1]? = some o2 := by
  have hs : (w.alloc o).heap.size = w.heap.size + 1 := Array.size_push _
  rw [← hs]
  exact bk_drew (bk_new _ _)
theorem node_cells (evs : List Value) (ns : List NodeV) (k i : Nat) (ev : Value) (n : NodeV) (h1 : evs[k]? = some ev) (h2 : ns[k]? = some n) (hi : i < 7) : (nodeCells evs ns)[7 * k + i]? = (n.cells ev)[i]? :=
  row_cells (fun ev n => NodeV.cells ev n) 7 (fun _ _ => rfl) evs ns k i ev n h1 h2 hi
theorem NodeRow.read {w : World} {B : Nat} {v : Value} {evs : List Value} {ns : List NodeV} (h : NodeRow w B v evs ns) : NReadQ true w v ns := by
  have ha := h.ex
  have hl := h.len
  rcases h.nodes.2 with ⟨rfl, h0⟩ | ⟨g, cap, cur, rfl, hb, hg, hn, hcm, _⟩
  · obtain rfl : ns = [] := List.length_eq_zero_iff.1 h0
    exact ⟨none, 0, rfl, ⟨Nat.le_refl _, by simp⟩, fun i x hx => by simp at hx⟩
  · refine ⟨_, _, rfl, ⟨hn, by unfold maxLen at hcm; omega⟩, fun i n hx => ?_⟩
    obtain ⟨ev, hev⟩ : ∃ ev, evs[i]? = some ev := by
      have := (List.getElem?_eq_some_iff.1 hx).1
      exact ⟨evs[i]'(by omega), List.getElem?_eq_getElem _⟩
    have hc := h.nodes.cells (g := g) rfl
    simp only [add_z] at hc
    have hk := fun k (hk : k < 7) => node_cells evs ns i k ev n hev hx hk
    refine ⟨g, 0, ev, _, _, rfl, bk_lt hg, ?_, ?_, ?_, ?_, ?_, ?_, ?_, .of_own (ha i ev n hev hx), fun _ => ⟨rfl, rfl⟩⟩
    all_goals rw [Nat.zero_add]
    · exact hc (i * 7) _ (by rw [Nat.mul_comm i 7]; have := hk 0 (by omega); simpa [NodeV.cells] using this)
    · exact hc (i * 7 + 1) _ (by rw [Nat.mul_comm i 7]; have := hk 1 (by omega); simpa [NodeV.cells] using this)
    · exact hc (i * 7 + 2) _ (by rw [Nat.mul_comm i 7]; have := hk 2 (by omega); simpa [NodeV.cells] using this)
    · exact hc (i * 7 + 3) _ (by rw [Nat.mul_comm i 7]; have := hk 3 (by omega); simpa [NodeV.cells] using this)
    · exact hc (i * 7 + 4) _ (by rw [Nat.mul_comm i 7]; have := hk 4 (by omega); simpa [NodeV.cells] using this)
    · exact hc (i * 7 + 5) _ (by rw [Nat.mul_comm i 7]; have := hk 5 (by omega); simpa [NodeV.cells] using this)
    · exact hc (i * 7 + 6) _ (by rw [Nat.mul_comm i 7]; have := hk 6 (by omega); simpa [NodeV.cells] using this)
set_option maxRecDepth 100000 in
set_option maxHeartbeats 8000000 in
theorem samenode_any (s t : NodeV) (av bv : Value) (w : World) (pl : Bool) (p q p' q' : Int) (ha : XReadQ pl w av s.ex) (hb : XReadQ pl w bv t.ex) (h : s.bare = t.bare)
    (hp : pl = true → (p = p' ∧ q = q') ∧ s.ex.map ExV.at_ = t.ex.map ExV.at_) :
    Calls Tryz.prog 20 #[.agg #[.string ⟨s.sp.toArray⟩, .string ⟨s.lo.toArray⟩, av, .string ⟨s.text.toArray⟩, .int .i64 s.par, .int .i64 p, .int .i64 q], .agg #[.string ⟨t.sp.toArray⟩, .string ⟨t.lo.toArray⟩, bv, .string ⟨t.text.toArray⟩, .int .i64 t.par, .int .i64 p', .int .i64 q'], .bool pl] w fun e w' => e = .returned (.bool true) ∧ Pur w w' := by
  obtain ⟨sp, lo, sex, tx, par, sat⟩ := s
  obtain ⟨tsp, tlo, tex, ttx, tpar, tat⟩ := t
  unfold NodeV.bare at h
  simp only [Prod.mk.injEq] at h
  obtain ⟨rfl, rfl, hex, rfl, rfl⟩ := h
  simp only at hp ha hb ⊢
  have hlen : sex.length = tex.length := by simpa using congrArg List.length hex
  obtain ⟨aa, ac, rfl, ⟨hac, ham⟩, HA⟩ := id ha
  obtain ⟨ba, bc, rfl, ⟨hbc, hbm⟩, HB⟩ := id hb
  simp only [hlen] at hac ⊢
  obtain ⟨W0, hW0⟩ : ∃ W0, W0 = (w.alloc (.cells #[.string ⟨sp.toArray⟩, .string ⟨lo.toArray⟩, .slice aa tex.length ac, .string ⟨tx.toArray⟩, .int .i64 par, .int .i64 p, .int .i64 q] 38)).alloc (.cells #[.string ⟨sp.toArray⟩, .string ⟨lo.toArray⟩, .slice ba tex.length bc, .string ⟨tx.toArray⟩, .int .i64 par, .int .i64 p', .int .i64 q'] 38) := ⟨_, rfl⟩
  have hP : Pur w W0 := by rw [hW0]; exact ((Pur.refl w).alloc _).alloc _
  have b0 : W0.heap[w.heap.size]? = some (.cells #[.string ⟨sp.toArray⟩, .string ⟨lo.toArray⟩, .slice aa tex.length ac, .string ⟨tx.toArray⟩, .int .i64 par, .int .i64 p, .int .i64 q] 38 (0, 0)) := by rw [hW0]; exact bk_alloc (bk_new w _) _
  have b1 : W0.heap[w.heap.size + 1]? = some (.cells #[.string ⟨sp.toArray⟩, .string ⟨lo.toArray⟩, .slice ba tex.length bc, .string ⟨tx.toArray⟩, .int .i64 par, .int .i64 p', .int .i64 q'] 38 (0, 0)) := by
    have hs : (w.alloc (.cells #[.string ⟨sp.toArray⟩, .string ⟨lo.toArray⟩, .slice aa tex.length ac, .string ⟨tx.toArray⟩, .int .i64 par, .int .i64 p, .int .i64 q] 38)).heap.size = w.heap.size + 1 := Array.size_push _
    rw [hW0, ← hs]; exact bk_new _ _
  have BX : ∀ wr, Pur W0 wr → wr.cell? ⟨w.heap.size, 2, none⟩ = some (.slice aa tex.length ac) ∧ wr.cell? ⟨w.heap.size + 1, 2, none⟩ = some (.slice ba tex.length bc) := fun wr hr => ⟨bk_cell (bk_pur b0 hr) 2 _ rfl, bk_cell (bk_pur b1 hr) 2 _ rfl⟩
  have ha' : XReadQ pl W0 (.slice aa sex.length ac) sex := ha.pur hP
  have hb' := hb.pur hP
  rw [hlen] at ha'
  have AT : ∀ n, n < tex.length → ∃ a b : ExV, a.sp = b.sp ∧ a.lo = b.lo ∧ a.val = b.val ∧ (pl = true → a.at_ = b.at_) ∧ sex[n]? = some a ∧ tex[n]? = some b := fun n hn => by
    have hn' : n < sex.length := by omega
    have h3 := congrArg (fun l => l[n]?) hex
    simp only [List.getElem?_map, List.getElem?_eq_getElem hn', List.getElem?_eq_getElem hn, Option.map_some, Option.some.injEq, ExV.bare, Prod.mk.injEq] at h3
    refine ⟨sex[n], tex[n], h3.1, h3.2.1, h3.2.2, fun e => ?_, List.getElem?_eq_getElem _, List.getElem?_eq_getElem _⟩
    have := congrArg (fun l => l[n]?) (hp e).2
    simpa only [List.getElem?_map, List.getElem?_eq_getElem hn', List.getElem?_eq_getElem hn, Option.map_some, Option.some.injEq] using this
  have hlen := Lib.hid hlen
  rcases pl with _ | _
  · skip
    clear hex hp b0 b1 ha hb HA HB
    go_enter Tryz.func20, Tryz.ntmps20
    go_wp2
    rw [← hW0]
    clear hW0
    go_loopw [7] (fun k wr => ∃ n : Nat, n ≤ tex.length ∧ k = .int .i64 n ∧ Pur W0 wr) (fun k _ => tex.length + 1 - (intOf k).toNat)
    case atStart => exact ⟨0, by omega, rfl, Pur.refl W0⟩
    case round =>
      obtain ⟨n, hn, rfl, hpr⟩ := hrel
      obtain ⟨q0, q1⟩ := BX wr hpr
      by_cases hlt : n < tex.length
      · have hlt2 : (n : Int) < tex.length := by omega
        have hac' : (tex.length : Int) ≤ ac := by omega
        have wn : IntKind.i64.wrap ((n : Int) + 1) = (n : Int) + 1 := IntWalk.i64_in _ (by omega)
        obtain ⟨a, b, e1, e2, e3, e4, h1, h2⟩ := AT n hlt
        replace e1 := Lib.hid e1
        replace e2 := Lib.hid e2
        replace e3 := Lib.hid e3
        replace e4 := Lib.hid e4
        obtain ⟨aa', ac', e5, -, HA⟩ := ha'.pur hpr
        obtain ⟨ba', bc', e6, -, HB⟩ := hb'.pur hpr
        simp only [Value.slice.injEq] at e5 e6
        obtain ⟨rfl, -, rfl⟩ := e5
        obtain ⟨rfl, -, rfl⟩ := e6
        obtain ⟨ga, oa, pa, qa, rfl, hga, k0, k1, k2, k3, k4, k5⟩ := HA n a h1
        obtain ⟨gb, ob, pb, qb, rfl, hgb, l0, l1, l2, l3, l4, l5⟩ := HB n b h2
        go_wp2_with fail
        go_cut [8, 9] from 62 to 71 (fun u v wx => ∃ ba bb : Nat, u = .pointer (some ⟨ba, 0, none⟩) ∧ v = .pointer (some ⟨bb, 0, none⟩) ∧ Pur wr wx ∧ wx.heap[ba]? = some (.cells #[.string ⟨a.sp.toArray⟩, .string ⟨a.lo.toArray⟩, .string ⟨a.val.toArray⟩, .int .i64 pa, .int .i64 qa] 81 (0, 0)) ∧ wx.heap[bb]? = some (.cells #[.string ⟨b.sp.toArray⟩, .string ⟨b.lo.toArray⟩, .string ⟨b.val.toArray⟩, .int .i64 pb, .int .i64 qb] 81 (0, 0)))
        case first =>
          have pd := (Pur.refl wr).drew
          have HT : ∀ w', Pur wr w' → (w'.cell? ⟨w.heap.size, 2, none⟩ = some (.slice (some ⟨ga, oa, none⟩) tex.length ac) ∧ w'.cell? ⟨w.heap.size + 1, 2, none⟩ = some (.slice (some ⟨gb, ob, none⟩) tex.length bc) ∧ w'.cell? ⟨ga, oa + n * 5, none⟩ = some (.string ⟨a.sp.toArray⟩) ∧ w'.cell? ⟨ga, oa + n * 5 + 1, none⟩ = some (.string ⟨a.lo.toArray⟩) ∧ w'.cell? ⟨ga, oa + n * 5 + 2, none⟩ = some (.string ⟨a.val.toArray⟩) ∧ w'.cell? ⟨ga, oa + n * 5 + 3, none⟩ = some (.int .i64 pa) ∧ w'.cell? ⟨ga, oa + n * 5 + 4, none⟩ = some (.int .i64 qa) ∧ w'.cell? ⟨gb, ob + n * 5, none⟩ = some (.string ⟨b.sp.toArray⟩) ∧ w'.cell? ⟨gb, ob + n * 5 + 1, none⟩ = some (.string ⟨b.lo.toArray⟩) ∧ w'.cell? ⟨gb, ob + n * 5 + 2, none⟩ = some (.string ⟨b.val.toArray⟩) ∧ w'.cell? ⟨gb, ob + n * 5 + 3, none⟩ = some (.int .i64 pb) ∧ w'.cell? ⟨gb, ob + n * 5 + 4, none⟩ = some (.int .i64 qb) ∧ Pur wr w') := fun w' hp => ⟨(BX w' (hpr.trans hp)).1, (BX w' (hpr.trans hp)).2, cell_pur k0 hp, cell_pur k1 hp, cell_pur k2 hp, cell_pur k3 hp, cell_pur k4 hp, cell_pur l0 hp, cell_pur l1 hp, cell_pur l2 hp, cell_pur l3 hp, cell_pur l4 hp, hp⟩
          have HT := Lib.hid HT
          refine wp_region_until (T := fun w' => w'.cell? ⟨w.heap.size, 2, none⟩ = some (.slice (some ⟨ga, oa, none⟩) tex.length ac) ∧ w'.cell? ⟨w.heap.size + 1, 2, none⟩ = some (.slice (some ⟨gb, ob, none⟩) tex.length bc) ∧ w'.cell? ⟨ga, oa + n * 5, none⟩ = some (.string ⟨a.sp.toArray⟩) ∧ w'.cell? ⟨ga, oa + n * 5 + 1, none⟩ = some (.string ⟨a.lo.toArray⟩) ∧ w'.cell? ⟨ga, oa + n * 5 + 2, none⟩ = some (.string ⟨a.val.toArray⟩) ∧ w'.cell? ⟨ga, oa + n * 5 + 3, none⟩ = some (.int .i64 pa) ∧ w'.cell? ⟨ga, oa + n * 5 + 4, none⟩ = some (.int .i64 qa) ∧ w'.cell? ⟨gb, ob + n * 5, none⟩ = some (.string ⟨b.sp.toArray⟩) ∧ w'.cell? ⟨gb, ob + n * 5 + 1, none⟩ = some (.string ⟨b.lo.toArray⟩) ∧ w'.cell? ⟨gb, ob + n * 5 + 2, none⟩ = some (.string ⟨b.val.toArray⟩) ∧ w'.cell? ⟨gb, ob + n * 5 + 3, none⟩ = some (.int .i64 pb) ∧ w'.cell? ⟨gb, ob + n * 5 + 4, none⟩ = some (.int .i64 qb) ∧ Pur wr w') 13 (by kernel_rfl) (HT.out _ pd) (fun hT => ?_)
          clear k0 k1 k2 k3 k4 k5 l0 l1 l2 l3 l4 l5 HA HB AT BX ha' hb' h1 h2 q0 q1
          refine wpAnyU_take (i := 0) (v := ?vu115) rfl (by kernel_rfl) (by kernel_rfl) (by kernel_rfl) (by kernel_rfl) (by kernel_rfl) (fun _ _ _ h => h) (Or.inl ⟨by rfl, ?hu115⟩) (by assumption) ?ru115
          case hu115 => (intro w9 hSw; (try dsimp only at hSw); go_simp; (try with_reducible rfl))
          simp only [Act.put, List.setIfInBounds_toArray, List.set_cons_zero, List.set_cons_succ]
          refine wpAnyU_take (i := 1) (v := ?vu116) rfl (by kernel_rfl) (by kernel_rfl) (by kernel_rfl) (by kernel_rfl) (by kernel_rfl) (fun _ _ _ h => h) (Or.inl ⟨by rfl, ?hu116⟩) (by assumption) ?ru116
          case hu116 => (intro w9 hSw; (try dsimp only at hSw); go_simp; (try with_reducible rfl))
          simp only [Act.put, List.setIfInBounds_toArray, List.set_cons_zero, List.set_cons_succ]
          refine wpAnyU_take (i := 2) (v := ?vu117) rfl (by kernel_rfl) (by kernel_rfl) (by kernel_rfl) (by kernel_rfl) (by kernel_rfl) (fun _ _ _ h => h) (Or.inl ⟨by rfl, ?hu117⟩) (by assumption) ?ru117
          case hu117 => (intro w9 hSw; (try dsimp only at hSw); go_simp; (try with_reducible rfl))
          simp only [Act.put, List.setIfInBounds_toArray, List.set_cons_zero, List.set_cons_succ]
          refine wpAnyU_take (i := 3) (v := ?vu118) rfl (by kernel_rfl) (by kernel_rfl) (by kernel_rfl) (by kernel_rfl) (by kernel_rfl) (fun _ _ _ h => h) (Or.inl ⟨by rfl, ?hu118⟩) (by assumption) ?ru118
          case hu118 => (intro w9 hSw; (try dsimp only at hSw); go_simp; (try with_reducible rfl))
          simp only [Act.put, List.setIfInBounds_toArray, List.set_cons_zero, List.set_cons_succ]
          refine wpAnyU_take (i := 4) (v := ?vu119) rfl (by kernel_rfl) (by kernel_rfl) (by kernel_rfl) (by kernel_rfl) (by kernel_rfl) (fun _ _ _ h => h) (Or.inl ⟨by rfl, ?hu119⟩) (by assumption) ?ru119
          case hu119 => (intro w9 hSw; (try dsimp only at hSw); go_simp; (try with_reducible rfl))
          simp only [Act.put, List.setIfInBounds_toArray, List.set_cons_zero, List.set_cons_succ]
          refine wpAnyU_take (i := 5) (v := ?vu120) rfl (by kernel_rfl) (by kernel_rfl) (by kernel_rfl) (by kernel_rfl) (by kernel_rfl) (fun _ _ _ h => h) (Or.inl ⟨by rfl, ?hu120⟩) (by assumption) ?ru120
          case hu120 => (intro w9 hSw; (try dsimp only at hSw); go_simp; (try with_reducible rfl))
          simp only [Act.put, List.setIfInBounds_toArray, List.set_cons_zero, List.set_cons_succ]
          refine wpAnyU_take (i := 6) (v := ?vu121) rfl (by kernel_rfl) (by kernel_rfl) (by kernel_rfl) (by kernel_rfl) (by kernel_rfl) (fun _ _ _ h => h) (Or.inl ⟨by rfl, ?hu121⟩) (by assumption) ?ru121
          case hu121 => (intro w9 hSw; (try dsimp only at hSw); go_simp; (try with_reducible rfl))
          simp only [Act.put, List.setIfInBounds_toArray, List.set_cons_zero, List.set_cons_succ]
          refine wpAnyU_take (i := 7) (v := ?vu122) rfl (by kernel_rfl) (by kernel_rfl) (by kernel_rfl) (by kernel_rfl) (by kernel_rfl) (fun _ _ _ h => h) (Or.inl ⟨by rfl, ?hu122⟩) (by assumption) ?ru122
          case hu122 => (intro w9 hSw; (try dsimp only at hSw); go_simp; (try with_reducible rfl))
          simp only [Act.put, List.setIfInBounds_toArray, List.set_cons_zero, List.set_cons_succ]
          refine wpAnyU_take (i := 8) (v := ?vu123) rfl (by kernel_rfl) (by kernel_rfl) (by kernel_rfl) (by kernel_rfl) (by kernel_rfl) (fun _ _ _ h => h) (Or.inl ⟨by rfl, ?hu123⟩) (by assumption) ?ru123
          case hu123 => (intro w9 hSw; (try dsimp only at hSw); go_simp; (try with_reducible rfl))
          simp only [Act.put, List.setIfInBounds_toArray, List.set_cons_zero, List.set_cons_succ]
          refine wpAnyU_take (i := 9) (v := ?vu124) rfl (by kernel_rfl) (by kernel_rfl) (by kernel_rfl) (by kernel_rfl) (by kernel_rfl) (fun _ _ _ h => h) (Or.inl ⟨by rfl, ?hu124⟩) (by assumption) ?ru124
          case hu124 => (intro w9 hSw; (try dsimp only at hSw); go_simp; (try with_reducible rfl))
          simp only [Act.put, List.setIfInBounds_toArray, List.set_cons_zero, List.set_cons_succ]
          refine wpAnyU_two (i := 10) (j := 11) (by kernel_rfl) rfl rfl (fun K hK => ?_) (fun K hK => ?_)
          · go_simp
            refine hK.out _ _ ?_ (fun hT => ?_)
            clear hK K
            try simp only [Act.put, List.setIfInBounds_toArray, List.set_cons_zero, List.set_cons_succ]
            · exact HT.out _ (by first | exact ((Pur.refl wr).alloc _).drew | exact pd.alloc _)
            refine wpAnyU_next (i := 11) (by kernel_rfl) rfl (fun K hK => ?_)
            go_simp
            refine hK.out _ _ ?_ (fun hT => ?_)
            clear hK K
            try simp only [Act.put, List.setIfInBounds_toArray, List.set_cons_zero, List.set_cons_succ]
            · exact HT.out _ (((Pur.refl wr).alloc _).alloc _).drew
            refine wpAnyU_next (i := 12) (by kernel_rfl) rfl (fun K hK => ?_)
            go_simp
            refine hK.out _ _ ?_ (fun hT => ?_)
            clear hK K
            try simp only [Act.put, List.setIfInBounds_toArray, List.set_cons_zero, List.set_cons_succ]
            · exact HT.out _ (((Pur.refl wr).alloc _).alloc _).drew
            refine wpAnyU_tail 13 (by kernel_rfl) ?_
            simp only [List.drop_succ_cons, List.drop_zero]
            go_wp2
            go_meet
            exact ⟨_, _, rfl, rfl, (((Pur.refl wr).alloc _).alloc _).drew, bk_drew (bk_alloc (bk_new wr _) _), second_new wr _ _⟩
          · go_simp
            refine hK.out _ _ ?_ (fun hT => ?_)
            clear hK K
            try simp only [Act.put, List.setIfInBounds_toArray, List.set_cons_zero, List.set_cons_succ]
            · exact HT.out _ (by first | exact ((Pur.refl wr).alloc _).drew | exact pd.alloc _)
            refine wpAnyU_next (i := 10) (by kernel_rfl) rfl (fun K hK => ?_)
            go_simp
            refine hK.out _ _ ?_ (fun hT => ?_)
            clear hK K
            try simp only [Act.put, List.setIfInBounds_toArray, List.set_cons_zero, List.set_cons_succ]
            · exact HT.out _ (((Pur.refl wr).alloc _).alloc _).drew
            refine wpAnyU_next (i := 12) (by kernel_rfl) rfl (fun K hK => ?_)
            go_simp
            refine hK.out _ _ ?_ (fun hT => ?_)
            clear hK K
            try simp only [Act.put, List.setIfInBounds_toArray, List.set_cons_zero, List.set_cons_succ]
            · exact HT.out _ (((Pur.refl wr).alloc _).alloc _).drew
            refine wpAnyU_tail 13 (by kernel_rfl) ?_
            simp only [List.drop_succ_cons, List.drop_zero]
            go_wp2
            go_meet
            exact ⟨_, _, rfl, rfl, (((Pur.refl wr).alloc _).alloc _).drew, second_new wr _ _, bk_drew (bk_alloc (bk_new wr _) _)⟩
        case rest =>
          obtain ⟨ba, bb, rfl, rfl, hq, hba, hbb⟩ := hcut
          rw [e1.out, e2.out, e3.out] at hba
          have z0 := bk_cell hba 0 _ rfl
          have z1 := bk_cell hba 1 _ rfl
          have z2 := bk_cell hba 2 _ rfl
          have z3 := bk_cell hba 3 _ rfl
          have z4 := bk_cell hba 4 _ rfl
          have y0 := bk_cell hbb 0 _ rfl
          have y1 := bk_cell hbb 1 _ rfl
          have y2 := bk_cell hbb 2 _ rfl
          have y3 := bk_cell hbb 3 _ rfl
          have y4 := bk_cell hbb 4 _ rfl
          clear k0 k1 k2 k3 k4 k5 l0 l1 l2 l3 l4 l5 HA HB AT BX ha' hb' h1 h2 e1 e2 e3 e4 q0 q1
          go_wp2
          go_roundw
          case rel => exact ⟨n + 1, by omega, by go_num, hpr.trans hq⟩
          case measure => simp [intOf]; omega
      · obtain rfl : n = tex.length := by omega
        clear AT BX ha' hb'
        go_wp2
        go_ret
        exact ⟨rfl, hP.trans hpr⟩
  · obtain ⟨⟨rfl, rfl⟩, -⟩ := hp rfl
    clear hex hp b0 b1 ha hb HA HB
    go_enter Tryz.func20, Tryz.ntmps20
    go_wp2
    rw [← hW0]
    clear hW0
    go_loopw [7] (fun k wr => ∃ n : Nat, n ≤ tex.length ∧ k = .int .i64 n ∧ Pur W0 wr) (fun k _ => tex.length + 1 - (intOf k).toNat)
    case atStart => exact ⟨0, by omega, rfl, Pur.refl W0⟩
    case round =>
      obtain ⟨n, hn, rfl, hpr⟩ := hrel
      obtain ⟨q0, q1⟩ := BX wr hpr
      by_cases hlt : n < tex.length
      · have hlt2 : (n : Int) < tex.length := by omega
        have hac' : (tex.length : Int) ≤ ac := by omega
        have wn : IntKind.i64.wrap ((n : Int) + 1) = (n : Int) + 1 := IntWalk.i64_in _ (by omega)
        obtain ⟨a, b, e1, e2, e3, e4, h1, h2⟩ := AT n hlt
        replace e1 := Lib.hid e1
        replace e2 := Lib.hid e2
        replace e3 := Lib.hid e3
        replace e4 := Lib.hid e4
        obtain ⟨aa', ac', e5, -, HA⟩ := ha'.pur hpr
        obtain ⟨ba', bc', e6, -, HB⟩ := hb'.pur hpr
        simp only [Value.slice.injEq] at e5 e6
        obtain ⟨rfl, -, rfl⟩ := e5
        obtain ⟨rfl, -, rfl⟩ := e6
        obtain ⟨ga, oa, pa, qa, rfl, hga, k0, k1, k2, k3, k4, k5⟩ := HA n a h1
        obtain ⟨gb, ob, pb, qb, rfl, hgb, l0, l1, l2, l3, l4, l5⟩ := HB n b h2
        obtain ⟨rfl, rfl⟩ := k5 rfl
        obtain ⟨rfl, rfl⟩ := l5 rfl
        go_wp2_with fail
        go_cut [8, 9] from 62 to 71 (fun u v wx => ∃ ba bb : Nat, u = .pointer (some ⟨ba, 0, none⟩) ∧ v = .pointer (some ⟨bb, 0, none⟩) ∧ Pur wr wx ∧ wx.heap[ba]? = some (.cells #[.string ⟨a.sp.toArray⟩, .string ⟨a.lo.toArray⟩, .string ⟨a.val.toArray⟩, .int .i64 (a.at_.1 : Int), .int .i64 (a.at_.2 : Int)] 81 (0, 0)) ∧ wx.heap[bb]? = some (.cells #[.string ⟨b.sp.toArray⟩, .string ⟨b.lo.toArray⟩, .string ⟨b.val.toArray⟩, .int .i64 (b.at_.1 : Int), .int .i64 (b.at_.2 : Int)] 81 (0, 0)))
        case first =>
          have pd := (Pur.refl wr).drew
          have HT : ∀ w', Pur wr w' → (w'.cell? ⟨w.heap.size, 2, none⟩ = some (.slice (some ⟨ga, oa, none⟩) tex.length ac) ∧ w'.cell? ⟨w.heap.size + 1, 2, none⟩ = some (.slice (some ⟨gb, ob, none⟩) tex.length bc) ∧ w'.cell? ⟨ga, oa + n * 5, none⟩ = some (.string ⟨a.sp.toArray⟩) ∧ w'.cell? ⟨ga, oa + n * 5 + 1, none⟩ = some (.string ⟨a.lo.toArray⟩) ∧ w'.cell? ⟨ga, oa + n * 5 + 2, none⟩ = some (.string ⟨a.val.toArray⟩) ∧ w'.cell? ⟨ga, oa + n * 5 + 3, none⟩ = some (.int .i64 (a.at_.1 : Int)) ∧ w'.cell? ⟨ga, oa + n * 5 + 4, none⟩ = some (.int .i64 (a.at_.2 : Int)) ∧ w'.cell? ⟨gb, ob + n * 5, none⟩ = some (.string ⟨b.sp.toArray⟩) ∧ w'.cell? ⟨gb, ob + n * 5 + 1, none⟩ = some (.string ⟨b.lo.toArray⟩) ∧ w'.cell? ⟨gb, ob + n * 5 + 2, none⟩ = some (.string ⟨b.val.toArray⟩) ∧ w'.cell? ⟨gb, ob + n * 5 + 3, none⟩ = some (.int .i64 (b.at_.1 : Int)) ∧ w'.cell? ⟨gb, ob + n * 5 + 4, none⟩ = some (.int .i64 (b.at_.2 : Int)) ∧ Pur wr w') := fun w' hp => ⟨(BX w' (hpr.trans hp)).1, (BX w' (hpr.trans hp)).2, cell_pur k0 hp, cell_pur k1 hp, cell_pur k2 hp, cell_pur k3 hp, cell_pur k4 hp, cell_pur l0 hp, cell_pur l1 hp, cell_pur l2 hp, cell_pur l3 hp, cell_pur l4 hp, hp⟩
          have HT := Lib.hid HT
          refine wp_region_until (T := fun w' => w'.cell? ⟨w.heap.size, 2, none⟩ = some (.slice (some ⟨ga, oa, none⟩) tex.length ac) ∧ w'.cell? ⟨w.heap.size + 1, 2, none⟩ = some (.slice (some ⟨gb, ob, none⟩) tex.length bc) ∧ w'.cell? ⟨ga, oa + n * 5, none⟩ = some (.string ⟨a.sp.toArray⟩) ∧ w'.cell? ⟨ga, oa + n * 5 + 1, none⟩ = some (.string ⟨a.lo.toArray⟩) ∧ w'.cell? ⟨ga, oa + n * 5 + 2, none⟩ = some (.string ⟨a.val.toArray⟩) ∧ w'.cell? ⟨ga, oa + n * 5 + 3, none⟩ = some (.int .i64 (a.at_.1 : Int)) ∧ w'.cell? ⟨ga, oa + n * 5 + 4, none⟩ = some (.int .i64 (a.at_.2 : Int)) ∧ w'.cell? ⟨gb, ob + n * 5, none⟩ = some (.string ⟨b.sp.toArray⟩) ∧ w'.cell? ⟨gb, ob + n * 5 + 1, none⟩ = some (.string ⟨b.lo.toArray⟩) ∧ w'.cell? ⟨gb, ob + n * 5 + 2, none⟩ = some (.string ⟨b.val.toArray⟩) ∧ w'.cell? ⟨gb, ob + n * 5 + 3, none⟩ = some (.int .i64 (b.at_.1 : Int)) ∧ w'.cell? ⟨gb, ob + n * 5 + 4, none⟩ = some (.int .i64 (b.at_.2 : Int)) ∧ Pur wr w') 13 (by kernel_rfl) (HT.out _ pd) (fun hT => ?_)
          clear k0 k1 k2 k3 k4 k5 l0 l1 l2 l3 l4 l5 HA HB AT BX ha' hb' h1 h2 q0 q1
          refine wpAnyU_take (i := 0) (v := ?vu125) rfl (by kernel_rfl) (by kernel_rfl) (by kernel_rfl) (by kernel_rfl) (by kernel_rfl) (fun _ _ _ h => h) (Or.inl ⟨by rfl, ?hu125⟩) (by assumption) ?ru125
          case hu125 => (intro w9 hSw; (try dsimp only at hSw); go_simp; (try with_reducible rfl))
          simp only [Act.put, List.setIfInBounds_toArray, List.set_cons_zero, List.set_cons_succ]
          refine wpAnyU_take (i := 1) (v := ?vu126) rfl (by kernel_rfl) (by kernel_rfl) (by kernel_rfl) (by kernel_rfl) (by kernel_rfl) (fun _ _ _ h => h) (Or.inl ⟨by rfl, ?hu126⟩) (by assumption) ?ru126
          case hu126 => (intro w9 hSw; (try dsimp only at hSw); go_simp; (try with_reducible rfl))
          simp only [Act.put, List.setIfInBounds_toArray, List.set_cons_zero, List.set_cons_succ]
          refine wpAnyU_take (i := 2) (v := ?vu127) rfl (by kernel_rfl) (by kernel_rfl) (by kernel_rfl) (by kernel_rfl) (by kernel_rfl) (fun _ _ _ h => h) (Or.inl ⟨by rfl, ?hu127⟩) (by assumption) ?ru127
          case hu127 => (intro w9 hSw; (try dsimp only at hSw); go_simp; (try with_reducible rfl))
          simp only [Act.put, List.setIfInBounds_toArray, List.set_cons_zero, List.set_cons_succ]
          refine wpAnyU_take (i := 3) (v := ?vu128) rfl (by kernel_rfl) (by kernel_rfl) (by kernel_rfl) (by kernel_rfl) (by kernel_rfl) (fun _ _ _ h => h) (Or.inl ⟨by rfl, ?hu128⟩) (by assumption) ?ru128
          case hu128 => (intro w9 hSw; (try dsimp only at hSw); go_simp; (try with_reducible rfl))
          simp only [Act.put, List.setIfInBounds_toArray, List.set_cons_zero, List.set_cons_succ]
          refine wpAnyU_take (i := 4) (v := ?vu129) rfl (by kernel_rfl) (by kernel_rfl) (by kernel_rfl) (by kernel_rfl) (by kernel_rfl) (fun _ _ _ h => h) (Or.inl ⟨by rfl, ?hu129⟩) (by assumption) ?ru129
          case hu129 => (intro w9 hSw; (try dsimp only at hSw); go_simp; (try with_reducible rfl))
          simp only [Act.put, List.setIfInBounds_toArray, List.set_cons_zero, List.set_cons_succ]
          refine wpAnyU_take (i := 5) (v := ?vu130) rfl (by kernel_rfl) (by kernel_rfl) (by kernel_rfl) (by kernel_rfl) (by kernel_rfl) (fun _ _ _ h => h) (Or.inl ⟨by rfl, ?hu130⟩) (by assumption) ?ru130
          case hu130 => (intro w9 hSw; (try dsimp only at hSw); go_simp; (try with_reducible rfl))
          simp only [Act.put, List.setIfInBounds_toArray, List.set_cons_zero, List.set_cons_succ]
          refine wpAnyU_take (i := 6) (v := ?vu131) rfl (by kernel_rfl) (by kernel_rfl) (by kernel_rfl) (by kernel_rfl) (by kernel_rfl) (fun _ _ _ h => h) (Or.inl ⟨by rfl, ?hu131⟩) (by assumption) ?ru131
          case hu131 => (intro w9 hSw; (try dsimp only at hSw); go_simp; (try with_reducible rfl))
          simp only [Act.put, List.setIfInBounds_toArray, List.set_cons_zero, List.set_cons_succ]
          refine wpAnyU_take (i := 7) (v := ?vu132) rfl (by kernel_rfl) (by kernel_rfl) (by kernel_rfl) (by kernel_rfl) (by kernel_rfl) (fun _ _ _ h => h) (Or.inl ⟨by rfl, ?hu132⟩) (by assumption) ?ru132
          case hu132 => (intro w9 hSw; (try dsimp only at hSw); go_simp; (try with_reducible rfl))
          simp only [Act.put, List.setIfInBounds_toArray, List.set_cons_zero, List.set_cons_succ]
          refine wpAnyU_take (i := 8) (v := ?vu133) rfl (by kernel_rfl) (by kernel_rfl) (by kernel_rfl) (by kernel_rfl) (by kernel_rfl) (fun _ _ _ h => h) (Or.inl ⟨by rfl, ?hu133⟩) (by assumption) ?ru133
          case hu133 => (intro w9 hSw; (try dsimp only at hSw); go_simp; (try with_reducible rfl))
          simp only [Act.put, List.setIfInBounds_toArray, List.set_cons_zero, List.set_cons_succ]
          refine wpAnyU_take (i := 9) (v := ?vu134) rfl (by kernel_rfl) (by kernel_rfl) (by kernel_rfl) (by kernel_rfl) (by kernel_rfl) (fun _ _ _ h => h) (Or.inl ⟨by rfl, ?hu134⟩) (by assumption) ?ru134
          case hu134 => (intro w9 hSw; (try dsimp only at hSw); go_simp; (try with_reducible rfl))
          simp only [Act.put, List.setIfInBounds_toArray, List.set_cons_zero, List.set_cons_succ]
          refine wpAnyU_two (i := 10) (j := 11) (by kernel_rfl) rfl rfl (fun K hK => ?_) (fun K hK => ?_)
          · go_simp
            refine hK.out _ _ ?_ (fun hT => ?_)
            clear hK K
            try simp only [Act.put, List.setIfInBounds_toArray, List.set_cons_zero, List.set_cons_succ]
            · exact HT.out _ (by first | exact ((Pur.refl wr).alloc _).drew | exact pd.alloc _)
            refine wpAnyU_next (i := 11) (by kernel_rfl) rfl (fun K hK => ?_)
            go_simp
            refine hK.out _ _ ?_ (fun hT => ?_)
            clear hK K
            try simp only [Act.put, List.setIfInBounds_toArray, List.set_cons_zero, List.set_cons_succ]
            · exact HT.out _ (((Pur.refl wr).alloc _).alloc _).drew
            refine wpAnyU_next (i := 12) (by kernel_rfl) rfl (fun K hK => ?_)
            go_simp
            refine hK.out _ _ ?_ (fun hT => ?_)
            clear hK K
            try simp only [Act.put, List.setIfInBounds_toArray, List.set_cons_zero, List.set_cons_succ]
            · exact HT.out _ (((Pur.refl wr).alloc _).alloc _).drew
            refine wpAnyU_tail 13 (by kernel_rfl) ?_
            simp only [List.drop_succ_cons, List.drop_zero]
            go_wp2
            go_meet
            exact ⟨_, _, rfl, rfl, (((Pur.refl wr).alloc _).alloc _).drew, bk_drew (bk_alloc (bk_new wr _) _), second_new wr _ _⟩
          · go_simp
            refine hK.out _ _ ?_ (fun hT => ?_)
            clear hK K
            try simp only [Act.put, List.setIfInBounds_toArray, List.set_cons_zero, List.set_cons_succ]
            · exact HT.out _ (by first | exact ((Pur.refl wr).alloc _).drew | exact pd.alloc _)
            refine wpAnyU_next (i := 10) (by kernel_rfl) rfl (fun K hK => ?_)
            go_simp
            refine hK.out _ _ ?_ (fun hT => ?_)
            clear hK K
            try simp only [Act.put, List.setIfInBounds_toArray, List.set_cons_zero, List.set_cons_succ]
            · exact HT.out _ (((Pur.refl wr).alloc _).alloc _).drew
            refine wpAnyU_next (i := 12) (by kernel_rfl) rfl (fun K hK => ?_)
            go_simp
            refine hK.out _ _ ?_ (fun hT => ?_)
            clear hK K
            try simp only [Act.put, List.setIfInBounds_toArray, List.set_cons_zero, List.set_cons_succ]
            · exact HT.out _ (((Pur.refl wr).alloc _).alloc _).drew
            refine wpAnyU_tail 13 (by kernel_rfl) ?_
            simp only [List.drop_succ_cons, List.drop_zero]
            go_wp2
            go_meet
            exact ⟨_, _, rfl, rfl, (((Pur.refl wr).alloc _).alloc _).drew, second_new wr _ _, bk_drew (bk_alloc (bk_new wr _) _)⟩
        case rest =>
          obtain ⟨ba, bb, rfl, rfl, hq, hba, hbb⟩ := hcut
          rw [e1.out, e2.out, e3.out, show a.at_ = b.at_ from by first | exact e4.out rfl | exact e4.out trivial] at hba
          have z0 := bk_cell hba 0 _ rfl
          have z1 := bk_cell hba 1 _ rfl
          have z2 := bk_cell hba 2 _ rfl
          have z3 := bk_cell hba 3 _ rfl
          have z4 := bk_cell hba 4 _ rfl
          have y0 := bk_cell hbb 0 _ rfl
          have y1 := bk_cell hbb 1 _ rfl
          have y2 := bk_cell hbb 2 _ rfl
          have y3 := bk_cell hbb 3 _ rfl
          have y4 := bk_cell hbb 4 _ rfl
          clear k0 k1 k2 k3 k4 k5 l0 l1 l2 l3 l4 l5 HA HB AT BX ha' hb' h1 h2 e1 e2 e3 e4 q0 q1
          go_wp2
          go_roundw
          case rel => exact ⟨n + 1, by omega, by go_num, hpr.trans hq⟩
          case measure => simp [intOf]; omega
      · obtain rfl : n = tex.length := by omega
        clear AT BX ha' hb'
        go_wp2
        go_ret
        exact ⟨rfl, hP.trans hpr⟩

set_option maxRecDepth 100000 in
set_option maxHeartbeats 8000000 in
theorem tsame_any (ts us : List NodeV) (va vb : Value) (w : World) (pl : Bool) (ha : NReadQ pl w va ts) (hb : NReadQ pl w vb us) (h : ts.map NodeV.bare = us.map NodeV.bare)
    (hp : pl = true → ts = us) :
    Calls Tryz.prog 8 #[.agg #[va], .agg #[vb], .bool pl] w fun e w' => e = .returned (.bool true) ∧ Pur w w' := by
  have hlen : ts.length = us.length := by simpa using congrArg List.length h
  obtain ⟨aa, ac, rfl, ⟨hac, ham⟩, HA⟩ := id ha
  obtain ⟨ba, bc, rfl, ⟨hbc, hbm⟩, HB⟩ := id hb
  have AT : ∀ n, n < us.length → ∃ s t : NodeV, s.bare = t.bare ∧ (pl = true → s = t) ∧ ts[n]? = some s ∧ us[n]? = some t := fun n hn => by
    have hn' : n < ts.length := by omega
    refine ⟨ts[n], us[n], ?_, fun e => ?_, List.getElem?_eq_getElem _, List.getElem?_eq_getElem _⟩
    · have := congrArg (fun l => l[n]?) h
      simpa only [List.getElem?_map, List.getElem?_eq_getElem hn', List.getElem?_eq_getElem hn, Option.map_some, Option.some.injEq] using this
    · have := congrArg (fun l => l[n]?) (hp e)
      simpa only [List.getElem?_eq_getElem hn', List.getElem?_eq_getElem hn, Option.some.injEq] using this
  obtain ⟨W0, hW0⟩ : ∃ W0, W0 = (w.alloc (.cells #[.slice aa us.length ac] 29)).alloc (.cells #[.slice ba us.length bc] 29) := ⟨_, rfl⟩
  have hP : Pur w W0 := by rw [hW0]; exact ((Pur.refl w).alloc _).alloc _
  have b0 : W0.heap[w.heap.size]? = some (.cells #[.slice aa us.length ac] 29 (0, 0)) := by rw [hW0]; exact bk_alloc (bk_new w _) _
  have b1 : W0.heap[w.heap.size + 1]? = some (.cells #[.slice ba us.length bc] 29 (0, 0)) := by
    have hs : (w.alloc (.cells #[.slice aa us.length ac] 29)).heap.size = w.heap.size + 1 := Array.size_push _
    rw [hW0, ← hs]; exact bk_new _ _
  have BX : ∀ wr, Pur W0 wr → wr.cell? ⟨w.heap.size, 0, none⟩ = some (.slice aa us.length ac) ∧ wr.cell? ⟨w.heap.size + 1, 0, none⟩ = some (.slice ba us.length bc) := fun wr hr => ⟨bk_cell (bk_pur b0 hr) 0 _ rfl, bk_cell (bk_pur b1 hr) 0 _ rfl⟩
  have ha' := ha.pur hP
  have hb' := hb.pur hP
  rw [hlen] at ha' hac ⊢
  have hlen := Lib.hid hlen
  clear h hp HA HB b0 b1 ha hb
  go_enter Tryz.func8, Tryz.ntmps8
  go_upto_region 1 with (fail)
  rw [← hW0]
  clear hW0
  obtain ⟨q0, q1⟩ := BX W0 (Pur.refl _)
  go_wp2
  go_loopw [7] (fun k wr => ∃ n : Nat, n ≤ us.length ∧ k = .int .i64 n ∧ Pur W0 wr) (fun k _ => us.length + 1 - (intOf k).toNat)
  case atStart => exact ⟨0, by omega, rfl, Pur.refl W0⟩
  case round =>
    clear q0 q1
    obtain ⟨n, hn, rfl, hpr⟩ := hrel
    obtain ⟨q0, q1⟩ := BX wr hpr
    by_cases hlt : n < us.length
    · have hlt2 : (n : Int) < us.length := by omega
      have hac' : (us.length : Int) ≤ ac := by omega
      have hbc' : (us.length : Int) ≤ bc := by omega
      have wn : IntKind.i64.wrap ((n : Int) + 1) = (n : Int) + 1 := IntWalk.i64_in _ (by omega)
      obtain ⟨s, t, e1, e2, h1, h2⟩ := AT n hlt
      obtain ⟨aa', ac', e4, -, HA⟩ := ha'.pur hpr
      obtain ⟨ba', bc', e5, -, HB⟩ := hb'.pur hpr
      simp only [Value.slice.injEq] at e4 e5
      obtain ⟨rfl, -, rfl⟩ := e4
      obtain ⟨rfl, -, rfl⟩ := e5
      obtain ⟨ga, oa, av, pa, qa, rfl, hga, k0, k1, k2, k3, k4, k5, k6, k7, k8⟩ := HA n s h1
      obtain ⟨gb, ob, bv, pb, qb, rfl, hgb, l0, l1, l2, l3, l4, l5, l6, l7, l8⟩ := HB n t h2
      have ST : ∀ x : PW wr, Calls Tryz.prog 20 #[.agg #[.string ⟨s.sp.toArray⟩, .string ⟨s.lo.toArray⟩, av, .string ⟨s.text.toArray⟩, .int .i64 s.par, .int .i64 pa, .int .i64 qa], .agg #[.string ⟨t.sp.toArray⟩, .string ⟨t.lo.toArray⟩, bv, .string ⟨t.text.toArray⟩, .int .i64 t.par, .int .i64 pb, .int .i64 qb], .bool pl] x.to fun e w' => e = .returned (.bool true) ∧ Pur x.to w' := fun x =>
        samenode_any s t av bv x.to pl pa qa pb qb (k7.pur x.pur) (l7.pur x.pur) e1 (fun e => by
          obtain ⟨rfl, rfl⟩ := k8 e
          obtain ⟨rfl, rfl⟩ := l8 e
          rw [e2 e]
          exact ⟨⟨rfl, rfl⟩, rfl⟩)
      have B : ∀ x : PW wr, x.to.cell? ⟨w.heap.size, 0, none⟩ = some (.slice (some ⟨ga, oa, none⟩) us.length ac) ∧ x.to.cell? ⟨w.heap.size + 1, 0, none⟩ = some (.slice (some ⟨gb, ob, none⟩) us.length bc) := fun x => BX x.to (hpr.trans x.pur)
      have B0 := fun x => (B x).1
      have B1 := fun x => (B x).2
      have K0 : ∀ x : PW wr, x.to.cell? ⟨ga, oa + n * 7, none⟩ = _ := fun x => (x.pur.cell hga).trans k0
      have L0 : ∀ x : PW wr, x.to.cell? ⟨gb, ob + n * 7, none⟩ = _ := fun x => (x.pur.cell hgb).trans l0
      have K1 : ∀ x : PW wr, x.to.cell? ⟨ga, oa + n * 7 + 1, none⟩ = _ := fun x => (x.pur.cell hga).trans k1
      have L1 : ∀ x : PW wr, x.to.cell? ⟨gb, ob + n * 7 + 1, none⟩ = _ := fun x => (x.pur.cell hgb).trans l1
      have K2 : ∀ x : PW wr, x.to.cell? ⟨ga, oa + n * 7 + 2, none⟩ = _ := fun x => (x.pur.cell hga).trans k2
      have L2 : ∀ x : PW wr, x.to.cell? ⟨gb, ob + n * 7 + 2, none⟩ = _ := fun x => (x.pur.cell hgb).trans l2
      have K3 : ∀ x : PW wr, x.to.cell? ⟨ga, oa + n * 7 + 3, none⟩ = _ := fun x => (x.pur.cell hga).trans k3
      have L3 : ∀ x : PW wr, x.to.cell? ⟨gb, ob + n * 7 + 3, none⟩ = _ := fun x => (x.pur.cell hgb).trans l3
      have K4 : ∀ x : PW wr, x.to.cell? ⟨ga, oa + n * 7 + 4, none⟩ = _ := fun x => (x.pur.cell hga).trans k4
      have L4 : ∀ x : PW wr, x.to.cell? ⟨gb, ob + n * 7 + 4, none⟩ = _ := fun x => (x.pur.cell hgb).trans l4
      have K5 : ∀ x : PW wr, x.to.cell? ⟨ga, oa + n * 7 + 5, none⟩ = _ := fun x => (x.pur.cell hga).trans k5
      have L5 : ∀ x : PW wr, x.to.cell? ⟨gb, ob + n * 7 + 5, none⟩ = _ := fun x => (x.pur.cell hgb).trans l5
      have K6 : ∀ x : PW wr, x.to.cell? ⟨ga, oa + n * 7 + 6, none⟩ = _ := fun x => (x.pur.cell hga).trans k6
      have L6 : ∀ x : PW wr, x.to.cell? ⟨gb, ob + n * 7 + 6, none⟩ = _ := fun x => (x.pur.cell hgb).trans l6
      obtain ⟨a1, a2, rfl, -, -⟩ := id k7
      obtain ⟨a3, a4, rfl, -, -⟩ := id l7
      clear k0 k1 k2 k3 k4 k5 k6 k7 k8 l0 l1 l2 l3 l4 l5 l6 l7 l8 HA HB AT BX B ha' hb' h1 h2 e1 e2
      go_wp2
      refine wp_region_pur (by kernel_rfl) (by kernel_rfl) ?_
      repeat (go_big_quiet_step (((go_at_call 20; exact quiet_pur (ST _)))))
      refine wpQuiet_nil ?_
      intro wq hq
      go_wp2
      go_roundw
      case rel => exact ⟨n + 1, by omega, by go_num, hpr.trans hq⟩
      case measure => simp [intOf]; omega
    · obtain rfl : n = us.length := by omega
      clear AT ha' hb' BX
      go_wp2
      go_ret
      exact ⟨rfl, hP.trans hpr⟩
end Te
end Go.Proofs.YtigfcchblfnnbaaGreatDoor