/- Layer 3: a tree that reads; Kids, Attr. Layer 3: chars, localRight, spaceRight. Layer 3: spaceRight, localRight. -/
import Derived.Test.YtigfcchblfnnbaaGreatDoorTeA
import Derived.Deep.CutRange
import Derived.Deep.DeepCutAuto
import Derived.Lib.SliceRun
import Derived.Test.YtigfcchblfnnbaaGreatDoorTeS
import Derived.Test.YtigfcchblfnnbaaGreatDoorTkD
import Derived.Test.YtigfcchblfnnbaaGreatDoorTu
namespace Go.Proofs.YtigfcchblfnnbaaGreatDoor
open Go Go.RowKit
set_option linter.all false
namespace Te
open Tk (Cs ints ints_append ints_length append_int mem_own)
/-- v reads as these attributes, but for their places -/
def XRead (w : World) (v : Value) (l : List ExV) : Prop :=
  ∃ a c, v = .slice a l.length c ∧ (l.length ≤ c ∧ l.length ≤ 9223372036854775807) ∧ ∀ (i : Nat) x, l[i]? = some x → ∃ g o, ∃ p q : Int, a = some ⟨g, o, none⟩ ∧ g < w.heap.size ∧
    w.cell? ⟨g, o + i * 5, none⟩ = some (.string ⟨x.sp.toArray⟩) ∧ w.cell? ⟨g, o + i * 5 + 1, none⟩ = some (.string ⟨x.lo.toArray⟩) ∧
    w.cell? ⟨g, o + i * 5 + 2, none⟩ = some (.string ⟨x.val.toArray⟩) ∧ w.cell? ⟨g, o + i * 5 + 3, none⟩ = some (.int .i64 p) ∧ w.cell? ⟨g, o + i * 5 + 4, none⟩ = some (.int .i64 q)
/-- v reads as these nodes, but for their places -/
def NRead (w : World) (v : Value) (ns : List NodeV) : Prop :=
  ∃ a c, v = .slice a ns.length c ∧ (ns.length ≤ c ∧ ns.length ≤ 9223372036854775807) ∧ ∀ (i : Nat) n, ns[i]? = some n → ∃ g o ev, ∃ p q : Int, a = some ⟨g, o, none⟩ ∧ g < w.heap.size ∧
    w.cell? ⟨g, o + i * 7, none⟩ = some (.string ⟨n.sp.toArray⟩) ∧ w.cell? ⟨g, o + i * 7 + 1, none⟩ = some (.string ⟨n.lo.toArray⟩) ∧
    w.cell? ⟨g, o + i * 7 + 2, none⟩ = some ev ∧ w.cell? ⟨g, o + i * 7 + 3, none⟩ = some (.string ⟨n.text.toArray⟩) ∧
    w.cell? ⟨g, o + i * 7 + 4, none⟩ = some (.int .i64 n.par) ∧ w.cell? ⟨g, o + i * 7 + 5, none⟩ = some (.int .i64 p) ∧ w.cell? ⟨g, o + i * 7 + 6, none⟩ = some (.int .i64 q) ∧ XRead w ev n.ex
theorem XRead.pur {w w' : World} {v : Value} {l : List ExV} (h : XRead w v l) (hp : Pur w w') : XRead w' v l := by
  obtain ⟨a, c, e, hc, h⟩ := h
  refine ⟨a, c, e, hc, fun i x hx => ?_⟩
  obtain ⟨g, o, p, q, e2, hg, k0, k1, k2, k3, k4⟩ := h i x hx
  exact ⟨g, o, p, q, e2, Nat.lt_of_lt_of_le hg hp.size, cell_pur k0 hp, cell_pur k1 hp, cell_pur k2 hp, cell_pur k3 hp, cell_pur k4 hp⟩
theorem NRead.pur {w w' : World} {v : Value} {l : List NodeV} (h : NRead w v l) (hp : Pur w w') : NRead w' v l := by
  obtain ⟨a, c, e, hc, h⟩ := h
  refine ⟨a, c, e, hc, fun i x hx => ?_⟩
  obtain ⟨g, o, ev, p, q, e2, hg, k0, k1, k2, k3, k4, k5, k6, k7⟩ := h i x hx
  exact ⟨g, o, ev, p, q, e2, Nat.lt_of_lt_of_le hg hp.size, cell_pur k0 hp, cell_pur k1 hp, cell_pur k2 hp, cell_pur k3 hp, cell_pur k4 hp, cell_pur k5 hp, cell_pur k6 hp, k7.pur hp⟩
theorem XRead.shape {w : World} {v : Value} {l : List ExV} (h : XRead w v l) : ∃ a c, v = .slice a l.length c := by obtain ⟨a, c, e, _⟩ := h; exact ⟨a, c, e⟩
theorem NRead.shape {w : World} {v : Value} {l : List NodeV} (h : NRead w v l) : ∃ a c, v = .slice a l.length c := by obtain ⟨a, c, e, _⟩ := h; exact ⟨a, c, e⟩
/-- at a node, in every world behind -/
theorem NRead.node {w : World} {a : Option Addr} {c : Nat} {ns : List NodeV} (h : NRead w (.slice a ns.length c) ns) {i : Nat} {n : NodeV} (hn : ns[i]? = some n) : ∃ g o, ∃ ea ec, ∃ p q : Int, a = some ⟨g, o, none⟩ ∧ g < w.heap.size ∧ ∀ W, Pur w W →
    W.cell? ⟨g, o + i * 7, none⟩ = some (.string ⟨n.sp.toArray⟩) ∧ W.cell? ⟨g, o + i * 7 + 1, none⟩ = some (.string ⟨n.lo.toArray⟩) ∧
    W.cell? ⟨g, o + i * 7 + 2, none⟩ = some (.slice ea n.ex.length ec) ∧ W.cell? ⟨g, o + i * 7 + 3, none⟩ = some (.string ⟨n.text.toArray⟩) ∧
    W.cell? ⟨g, o + i * 7 + 4, none⟩ = some (.int .i64 n.par) ∧ W.cell? ⟨g, o + i * 7 + 5, none⟩ = some (.int .i64 p) ∧ W.cell? ⟨g, o + i * 7 + 6, none⟩ = some (.int .i64 q) ∧ XRead W (.slice ea n.ex.length ec) n.ex := by
  obtain ⟨a', c', e, hc, h⟩ := h
  cases e
  obtain ⟨g, o, ev, p, q, e2, hg, k0, k1, k2, k3, k4, k5, k6, k7⟩ := h i n hn
  obtain ⟨ea, ec, rfl⟩ := k7.shape
  exact ⟨g, o, ea, ec, p, q, e2, hg, fun W hp => ⟨cell_pur k0 hp, cell_pur k1 hp, cell_pur k2 hp, cell_pur k3 hp, cell_pur k4 hp, cell_pur k5 hp, cell_pur k6 hp, k7.pur hp⟩⟩
theorem XRead.at {w : World} {a : Option Addr} {c : Nat} {l : List ExV} (h : XRead w (.slice a l.length c) l) {i : Nat} {x : ExV} (hx : l[i]? = some x) : ∃ g o, ∃ p q : Int, a = some ⟨g, o, none⟩ ∧ g < w.heap.size ∧ ∀ W, Pur w W →
    W.cell? ⟨g, o + i * 5, none⟩ = some (.string ⟨x.sp.toArray⟩) ∧ W.cell? ⟨g, o + i * 5 + 1, none⟩ = some (.string ⟨x.lo.toArray⟩) ∧
    W.cell? ⟨g, o + i * 5 + 2, none⟩ = some (.string ⟨x.val.toArray⟩) ∧ W.cell? ⟨g, o + i * 5 + 3, none⟩ = some (.int .i64 p) ∧ W.cell? ⟨g, o + i * 5 + 4, none⟩ = some (.int .i64 q) := by
  obtain ⟨a', c', e, hc, h⟩ := h
  cases e
  obtain ⟨g, o, p, q, e2, hg, k0, k1, k2, k3, k4⟩ := h i x hx
  exact ⟨g, o, p, q, e2, hg, fun W hp => ⟨cell_pur k0 hp, cell_pur k1 hp, cell_pur k2 hp, cell_pur k3 hp, cell_pur k4 hp⟩⟩
theorem NRead.len {w : World} {a : Option Addr} {n c : Nat} {ns : List NodeV} (h : NRead w (.slice a n c) ns) : n = ns.length ∧ ns.length ≤ c ∧ ns.length ≤ 9223372036854775807 := by
  obtain ⟨a', c', e, hc, h⟩ := h; cases e; exact ⟨rfl, hc⟩
theorem XRead.len {w : World} {a : Option Addr} {n c : Nat} {ns : List ExV} (h : XRead w (.slice a n c) ns) : n = ns.length ∧ ns.length ≤ c ∧ ns.length ≤ 9223372036854775807 := by
  obtain ⟨a', c', e, hc, h⟩ := h; cases e; exact ⟨rfl, hc⟩
theorem kids_step (i : Int) (ns : List NodeV) (k : Nat) (n : NodeV) (h : ns[k]? = some n) : kidsGo i (ns.drop k) k = if n.par = i then k :: kidsGo i (ns.drop (k + 1)) (k + 1) else kidsGo i (ns.drop (k + 1)) (k + 1) := by
  obtain ⟨hi, e⟩ := List.getElem?_eq_some_iff.1 h
  rw [List.drop_eq_getElem_cons hi, e, kidsGo]
set_option maxRecDepth 100000 in
set_option maxHeartbeats 8000000 in
theorem kids_any (ns : List NodeV) (v : Value) (i : Int) (w : World) (h : NRead w v ns) (hl : ns.length ≤ 1000000) :
    Calls Tryz.prog 42 #[.agg #[v], .int .i64 i] w fun e w' => ∃ u, e = .returned u ∧ Pur w w' ∧ w'.ownsRow w.heap.size 3 1 u (kids ns i).length (ints (kids ns i)) := by
  obtain ⟨a, c, rfl⟩ := h.shape
  obtain ⟨-, hc, hm⟩ := h.len
  obtain ⟨w0, hw0⟩ : ∃ w0, w0 = w.alloc (.cells #[.slice a ns.length c] 29) := ⟨_, rfl⟩
  have hb0 : w0.heap[w.heap.size]? = some (.cells #[.slice a ns.length c] 29 (0, 0)) := by rw [hw0]; exact bk_new w _
  have hp0 : Pur w w0 := by rw [hw0]; exact (Pur.refl w).alloc _
  have h0 := h.pur hp0
  have t0 := bk_cell hb0 0 _ rfl
  obtain ⟨R, hR⟩ : ∃ R, kids ns i = R := ⟨_, rfl⟩
  rw [hR]
  have HR := Lib.hid hR
  clear hR
  go_enter Tryz.func42, Tryz.ntmps42
  go_upto_region 1 with (fail)
  rw [← hw0]
  clear hw0
  go_wp2
  go_loopw [5, 11] (fun u k wx => ∃ (j : Nat) (acc : Cs), j ≤ ns.length ∧ k = .int .i64 j ∧ wx.ownsRow w0.heap.size 3 1 u acc.length (ints acc) ∧ Pur w0 wx ∧ acc.length ≤ j ∧ Hid (R = acc ++ kidsGo i (ns.drop j) j)) (fun _ k _ => ns.length + 1 - (intOf k).toNat)
  case atStart => exact ⟨0, [], by omega, rfl, World.ownsRow_nil _ _ _ _, Pur.refl _, Nat.le_refl _, Lib.hid (by rw [← HR.out]; rfl)⟩
  case round =>
    obtain ⟨j, acc, hj, rfl, hown, hpr, hacc, H⟩ := hrel
    obtain ⟨la, lc, rfl⟩ := row_shape hown
    have P1 : Pur w wr := hp0.trans hpr
    by_cases hlt : j < ns.length
    · obtain ⟨n, hn⟩ : ∃ n, ns[j]? = some n := ⟨_, List.getElem?_eq_getElem hlt⟩
      obtain ⟨g, o, ea, ec, p, q, rfl, hg, HC⟩ := h0.node hn
      obtain ⟨k0, k1, k2, k3, k4, k5, k6, -⟩ := HC wr hpr
      have hlt' : (j : Int) < ns.length := by omega
      have HS := Lib.hid (kids_step i ns j n hn)
      obtain ⟨sp, lo, ex, tx, par, at_⟩ := n
      dsimp only at k0 k1 k2 k3 k4 HS
      obtain ⟨w1, hw1⟩ : ∃ w1, w1 = wr.alloc (.cells #[.string ⟨sp.toArray⟩, .string ⟨lo.toArray⟩, .slice ea ex.length ec, .string ⟨tx.toArray⟩, .int .i64 par, .int .i64 p, .int .i64 q] 38) := ⟨_, rfl⟩
      have hb1 : w1.heap[wr.heap.size]? = some (.cells #[.string ⟨sp.toArray⟩, .string ⟨lo.toArray⟩, .slice ea ex.length ec, .string ⟨tx.toArray⟩, .int .i64 par, .int .i64 p, .int .i64 q] 38 (0, 0)) := by rw [hw1]; exact bk_new wr _
      have p1 : Pur wr w1 := by rw [hw1]; exact (Pur.refl wr).alloc _
      clear hn HC
      go_upto_region 5 with (fail)
      rw [← hw1]
      have y4 := bk_cell hb1 4 _ rfl
      clear hw1 k0 k1 k2 k3 k4 k5 k6
      have hown1 := row_pur hown p1
      by_cases hpar : par = i
      · have hd : (par == i) = true := by simpa using hpar
        have HS2 := Lib.hid (show kidsGo i (ns.drop j) j = j :: kidsGo i (ns.drop (j + 1)) (j + 1) by rw [HS.out, if_pos hpar])
        clear hpar HS
        go_wp2_with (at_builtin; refine append_int w1 rfl _ _ (by rfl) w0.heap.size _ acc j _ _ _ rfl (by rfl) (by rfl) hown1 (by omega) (hpr.trans p1).size ?_)
        intro v7 w7 hown7 hg7
        have P7' : Pur w0 w7 := ((Chg.of_pur (S := []) ((hpr.trans p1).alloc _)).grown hg7 (fun b hb => .inr ((hown1.lt b hb).1))).to_pur (fun b hb => by cases hb)
        go_wp2
        go_roundw
        case rel => exact ⟨j + 1, acc ++ [j], by omega, by go_num, by rw [List.length_append]; exact hown7, P7', by simp; omega, Lib.hid (by rw [H.out, HS2.out]; simp)⟩
        case measure => simp [intOf]; omega
      · have hd : (par == i) = false := by simpa using hpar
        have HS2 := Lib.hid (show kidsGo i (ns.drop j) j = kidsGo i (ns.drop (j + 1)) (j + 1) by rw [HS.out, if_neg hpar])
        clear hpar HS
        go_wp2
        go_roundw
        case rel => exact ⟨j + 1, acc, by omega, by go_num, hown1, hpr.trans p1, by omega, Lib.hid (by rw [H.out, HS2.out])⟩
        case measure => simp [intOf]; omega
    · have hj2 : j = ns.length := by omega
      subst hj2
      have HD := Lib.hid (show R = acc by rw [H.out, List.drop_length, kidsGo, List.append_nil])
      have hlt' : ¬ ((ns.length : Nat) : Int) < ns.length := by omega
      clear H hlt hj
      go_wp2
      go_ret
      exact ⟨_, rfl, P1, by rw [HD.out]; exact row_up hown (fun g hg => Nat.le_trans hp0.size (hown.lt g hg).1)⟩
theorem find_step (p : ExV → Bool) (l : List ExV) (i : Nat) (x : ExV) (h : l[i]? = some x) : (l.drop i).find? p = if p x then some x else (l.drop (i + 1)).find? p := by
  obtain ⟨hi, e⟩ := List.getElem?_eq_some_iff.1 h
  rw [List.drop_eq_getElem_cons hi, e, List.find?_cons]
  cases p x <;> rfl
set_option maxRecDepth 100000 in
set_option maxHeartbeats 8000000 in
theorem attr_any (ns : List NodeV) (v : Value) (i : Int) (sp lo : Bs) (w : World) (h : NRead w v ns) :
    Calls Tryz.prog 12 #[.agg #[v], .int .i64 i, .string ⟨sp.toArray⟩, .string ⟨lo.toArray⟩] w fun e w' => e = .returned (.tuple #[.string ⟨((attrOf ns i sp lo).getD []).toArray⟩, .bool (attrOf ns i sp lo).isSome]) ∧ Pur w w' := by
  obtain ⟨a, c, rfl⟩ := h.shape
  obtain ⟨-, hc, hm⟩ := h.len
  obtain ⟨w0, hw0⟩ : ∃ w0, w0 = w.alloc (.cells #[.slice a ns.length c] 29) := ⟨_, rfl⟩
  have hb0 : w0.heap[w.heap.size]? = some (.cells #[.slice a ns.length c] 29 (0, 0)) := by rw [hw0]; exact bk_new w _
  have hp0 : Pur w w0 := by rw [hw0]; exact (Pur.refl w).alloc _
  have h0 := h.pur hp0
  have t0 := bk_cell hb0 0 _ rfl
  obtain ⟨R, hR⟩ : ∃ R, attrOf ns i sp lo = R := ⟨_, rfl⟩
  rw [hR]
  have HR := Lib.hid hR
  clear hR
  by_cases hi : i < 0
  · have HD := Lib.hid (show R = none by rw [← HR.out]; unfold attrOf; rw [if_pos hi])
    clear HR
    go_enter Tryz.func12, Tryz.ntmps12
    go_upto_region 1 with (fail)
    rw [← hw0]
    clear hw0
    go_wp2
    go_ret2
    exact ⟨by rw [HD.out]; rfl, hp0⟩
  obtain ⟨k, rfl⟩ : ∃ k : Nat, i = (k : Int) := ⟨i.toNat, by omega⟩
  have hnn : ¬ ((k : Int) < 0) := by omega
  by_cases hk : k < ns.length
  · obtain ⟨n, hn⟩ : ∃ n, ns[k]? = some n := ⟨_, List.getElem?_eq_getElem hk⟩
    obtain ⟨g, o, ea, ec, p, q, rfl, hg, HC⟩ := h0.node hn
    obtain ⟨k0, k1, k2, k3, k4, k5, k6, hx⟩ := HC w0 (Pur.refl _)
    have HD := Lib.hid (show R = (n.ex.find? fun x => decide (x.sp = sp) && decide (x.lo = lo)).map (·.val) by rw [← HR.out]; unfold attrOf; rw [if_neg hi, show (k : Int).toNat = k from rfl, hn])
    have hlt' : ¬ ((ns.length : Int) ≤ k) := by omega
    have hlt2 : (k : Int) < ns.length := by omega
    obtain ⟨-, hxc, hxm⟩ := hx.len
    obtain ⟨sp', lo', ex, tx, par, at_⟩ := n
    dsimp only at k2 HD hx hxc hxm
    clear HR hn HC k0 k1 k3 k4 k5 k6 hi
    go_enter Tryz.func12, Tryz.ntmps12
    go_upto_region 1 with (fail)
    rw [← hw0]
    clear hw0
    go_wp2
    go_loopw [28] (fun k wx => ∃ (j : Nat), j ≤ ex.length ∧ k = .int .i64 j ∧ Pur w0 wx ∧ Hid (R = ((ex.drop j).find? fun x => decide (x.sp = sp) && decide (x.lo = lo)).map (·.val))) (fun k _ => ex.length + 1 - (intOf k).toNat)
    case atStart => exact ⟨0, by omega, rfl, Pur.refl _, Lib.hid (by rw [HD.out]; rfl)⟩
    case round =>
      obtain ⟨j, hj, rfl, hpr, H⟩ := hrel
      by_cases hlt : j < ex.length
      · obtain ⟨x, hxj⟩ : ∃ x, ex[j]? = some x := ⟨_, List.getElem?_eq_getElem hlt⟩
        obtain ⟨eg, eo, ep, eq, rfl, heg, HC⟩ := hx.at hxj
        obtain ⟨j0, j1, j2, j3, j4⟩ := HC wr hpr
        have hlt' : (j : Int) < ex.length := by omega
        have HS := Lib.hid (find_step (fun x => decide (x.sp = sp) && decide (x.lo = lo)) ex j x hxj)
        obtain ⟨xs, xl, xv, xa⟩ := x
        dsimp only at j0 j1 j2 HS
        obtain ⟨w1, hw1⟩ : ∃ w1, w1 = wr.alloc (.cells #[.string ⟨xs.toArray⟩, .string ⟨xl.toArray⟩, .string ⟨xv.toArray⟩, .int .i64 ep, .int .i64 eq] 81) := ⟨_, rfl⟩
        have hb1 : w1.heap[wr.heap.size]? = some (.cells #[.string ⟨xs.toArray⟩, .string ⟨xl.toArray⟩, .string ⟨xv.toArray⟩, .int .i64 ep, .int .i64 eq] 81 (0, 0)) := by rw [hw1]; exact bk_new wr _
        have p1 : Pur wr w1 := by rw [hw1]; exact (Pur.refl wr).alloc _
        clear hxj HC k2 t0
        go_upto_region 6 with (fail)
        rw [← hw1]
        have y0 := bk_cell hb1 0 _ rfl
        have y1 := bk_cell hb1 1 _ rfl
        have y2 := bk_cell hb1 2 _ rfl
        clear hw1 j0 j1 j2 j3 j4
        by_cases e1 : xs = sp
        · have d1 : (xs == sp) = true := by simpa using e1
          by_cases e2 : xl = lo
          · have d2 : (xl == lo) = true := by simpa using e2
            have HE := Lib.hid (show R = some xv by rw [H.out, HS.out, e1, e2]; simp)
            clear e1 e2 H HS HD
            go_wp2
            go_ret2
            exact ⟨by rw [HE.out]; rfl, (hp0.trans hpr).trans p1⟩
          · have d2 : (xl == lo) = false := by simpa using e2
            have HE := Lib.hid (show R = ((ex.drop (j + 1)).find? fun x => decide (x.sp = sp) && decide (x.lo = lo)).map (·.val) by rw [H.out, HS.out, decide_eq_false e2, Bool.and_false]; rfl)
            clear e1 e2 H HS HD
            go_wp2
            go_roundw
            case rel => exact ⟨j + 1, by omega, by go_num, hpr.trans p1, HE⟩
            case measure => simp [intOf]; omega
        · have d1 : (xs == sp) = false := by simpa using e1
          have HE := Lib.hid (show R = ((ex.drop (j + 1)).find? fun x => decide (x.sp = sp) && decide (x.lo = lo)).map (·.val) by rw [H.out, HS.out, decide_eq_false e1, Bool.false_and]; rfl)
          clear e1 H HS HD
          go_wp2
          go_roundw
          case rel => exact ⟨j + 1, by omega, by go_num, hpr.trans p1, HE⟩
          case measure => simp [intOf]; omega
      · have hj2 : j = ex.length := by omega
        subst hj2
        have HE := Lib.hid (show R = none by rw [H.out, List.drop_length]; rfl)
        have hlt' : ¬ ((ex.length : Nat) : Int) < ex.length := by omega
        clear H HD hlt hj
        go_wp2
        go_ret2
        exact ⟨by rw [HE.out]; rfl, hp0.trans hpr⟩
  · have HD := Lib.hid (show R = none by rw [← HR.out]; unfold attrOf; rw [if_neg hi, show (k : Int).toNat = k from rfl, List.getElem?_eq_none (by omega)])
    have hlt' : (ns.length : Int) ≤ k := by omega
    clear HR hi
    go_enter Tryz.func12, Tryz.ntmps12
    go_upto_region 1 with (fail)
    rw [← hw0]
    clear hw0
    go_wp2
    go_ret2
    exact ⟨by rw [HD.out]; rfl, hp0⟩
end Te
end Go.Proofs.YtigfcchblfnnbaaGreatDoor
namespace Go.Proofs.YtigfcchblfnnbaaGreatDoor
open Go Go.RowKit
set_option linter.all false
namespace Te
open Tk (Cs ints ints_append ints_length append_int mem_own IRead)
/-- what chars has handed back -/
def Chd (B : Nat) (w' : World) (r : Option Cs) (e : Ending) : Prop := match r with
  | none => e = .returned (.tuple #[.slice none 0 0, .bool false])
  | some cs => ∃ a c, e = .returned (.tuple #[.slice a cs.length c, .bool true]) ∧ w'.ownsRow B 3 1 (.slice a cs.length c) cs.length (ints cs)
theorem chars_step (l : Bs) (f i : Nat) : charsGo l (f + 1) i = if i < l.length then (if (chr l i).2 = 0 then none else if xok (chr l i).1 then (charsGo l f (i + (chr l i).2)).map ((chr l i).1 :: ·) else none) else some [] := rfl
set_option maxRecDepth 100000 in
set_option maxHeartbeats 16000000 in
theorem chars_any (l : Bs) (w : World) (hT : Lib.Utf8Tabs 6 7 w) (hl : l.length ≤ 1000000) :
    Calls Tryz.prog 36 #[.string ⟨l.toArray⟩] w fun e w' => Pur w w' ∧ Chd w.heap.size w' (chars l) e := by
  obtain ⟨R, hR⟩ : ∃ R, chars l = R := ⟨_, rfl⟩
  rw [hR]
  have HR := Lib.hid hR
  clear hR
  go_enter Tryz.func36, Tryz.ntmps36
  go_wp2
  go_loopw [4, 5] (fun u k wx => ∃ (i f : Nat) (acc : Cs), i ≤ l.length ∧ l.length < i + f ∧ k = .int .i64 i ∧ wx.ownsRow w.heap.size 3 1 u acc.length (ints acc) ∧ Pur w wx ∧ acc.length ≤ i ∧ Hid (R = (charsGo l f i).map (acc ++ ·))) (fun _ k _ => l.length + 1 - (intOf k).toNat)
  case atStart => exact ⟨0, l.length + 1, [], by omega, by omega, rfl, World.ownsRow_nil _ _ _ _, Pur.refl _, Nat.le_refl _, Lib.hid (by rw [← HR.out]; unfold chars; rcases charsGo l (l.length + 1) 0 with _ | x <;> simp)⟩
  case round =>
    obtain ⟨i, f, acc, hi, hf, rfl, hown, hpr, hacc, H⟩ := hrel
    obtain ⟨la, lc, rfl⟩ := row_shape hown
    obtain ⟨f, rfl⟩ : ∃ g, f = g + 1 := ⟨f - 1, by omega⟩
    have HS := Lib.hid (chars_step l f i)
    by_cases hlt : i < l.length
    · have hlt' : (i : Int) < l.length := by omega
      have NX := next_in l i wr (Utf8Tabs_below hT hpr) hlt
      have hbd := chr_bd l i
      have hend := chr_end l i
      obtain ⟨⟨ch, n⟩, hch⟩ : ∃ q, chr l i = q := ⟨_, rfl⟩
      rw [hch] at NX hbd hend
      have HC := Lib.hid hch
      clear hch
      dsimp only at NX hbd hend
      by_cases hn : n = 0
      · have HE := Lib.hid (show R = none by rw [H.out, HS.out, if_pos hlt, HC.out, if_pos hn]; rfl)
        subst hn
        simp only [Nat.lt_irrefl, decide_false] at NX
        clear H HS hlt hend
        go_wp2_with fail
        refine NX.mono ?_
        rintro e w1 ⟨rfl, p1⟩
        clear NX
        go_wp2
        go_ret2
        rw [HE.out]
        exact ⟨hpr.trans p1, rfl⟩
      · have hn' : (0 : Int) < n := by omega
        rw [decide_eq_true (show 0 < n by omega)] at NX
        have he := hend hn
        cases hx : xok ch with
        | false =>
          have HE := Lib.hid (show R = none by rw [H.out, HS.out, if_pos hlt, HC.out, if_neg hn, hx]; rfl)
          unfold xok at hx
          have hx := of_decide_eq_false hx
          have q1 : ((ch : Int) == 9) = false := by simp; omega
          have q2 : ((ch : Int) == 10) = false := by simp; omega
          have q3 : ((ch : Int) == 13) = false := by simp; omega
          have q4 : decide ((65536 : Int) ≤ ch) = false := by simp; omega
          obtain ⟨b1, h1⟩ : ∃ b, decide ((32 : Int) ≤ ch) = b := ⟨_, rfl⟩
          obtain ⟨b2, h2⟩ : ∃ b, decide ((ch : Int) ≤ 55295) = b := ⟨_, rfl⟩
          obtain ⟨b3, h3⟩ : ∃ b, decide ((57344 : Int) ≤ ch) = b := ⟨_, rfl⟩
          obtain ⟨b4, h4⟩ : ∃ b, decide ((ch : Int) ≤ 65533) = b := ⟨_, rfl⟩
          have hb : ¬ (b1 = true ∧ b2 = true) ∧ ¬ (b3 = true ∧ b4 = true) := by
            rw [← h1, ← h2, ← h3, ← h4]; simp only [decide_eq_true_eq]; omega
          clear H HS hlt hend hx
          go_wp2_with fail
          refine NX.mono ?_
          rintro e w1 ⟨rfl, p1⟩
          clear NX
          rcases b1 with _ | _ <;> rcases b2 with _ | _ <;> rcases b3 with _ | _ <;> rcases b4 with _ | _
          all_goals first | exact absurd ⟨rfl, rfl⟩ hb.1 | exact absurd ⟨rfl, rfl⟩ hb.2 | skip
          all_goals
            clear hb
            go_wp2
            go_ret2
            rw [HE.out]
            exact ⟨hpr.trans p1, rfl⟩
        | true =>
          have HE := Lib.hid (show R = (charsGo l f (i + n)).map ((acc ++ [ch]) ++ ·) by
            rw [H.out, HS.out, if_pos hlt, HC.out, if_neg hn, hx]
            simp only [if_true, Option.map_map]
            congr 1; funext y; simp)
          unfold xok at hx
          have hx := of_decide_eq_true hx
          clear H HS hlt hend
          go_wp2_with fail
          refine NX.mono ?_
          rintro e w1 ⟨rfl, p1⟩
          clear NX
          go_upto_region 5 with (fail)
          go_cut [54] from 20 to 54 (fun t wx => t = .bool false ∧ wx = w1)
          case first =>
            obtain ⟨b0, h0⟩ : ∃ b, ((ch : Int) == 9) = b := ⟨_, rfl⟩
            obtain ⟨b5, h5⟩ : ∃ b, ((ch : Int) == 10) = b := ⟨_, rfl⟩
            obtain ⟨b6, h6⟩ : ∃ b, ((ch : Int) == 13) = b := ⟨_, rfl⟩
            obtain ⟨b1, h1⟩ : ∃ b, decide ((32 : Int) ≤ ch) = b := ⟨_, rfl⟩
            obtain ⟨b2, h2⟩ : ∃ b, decide ((ch : Int) ≤ 55295) = b := ⟨_, rfl⟩
            obtain ⟨b3, h3⟩ : ∃ b, decide ((57344 : Int) ≤ ch) = b := ⟨_, rfl⟩
            obtain ⟨b4, h4⟩ : ∃ b, decide ((ch : Int) ≤ 65533) = b := ⟨_, rfl⟩
            obtain ⟨b7, h7⟩ : ∃ b, decide ((65536 : Int) ≤ ch) = b := ⟨_, rfl⟩
            have hb : b0 = true ∨ b5 = true ∨ b6 = true ∨ (b1 = true ∧ b2 = true) ∨ (b3 = true ∧ b4 = true) ∨ b7 = true := by
              rw [← h0, ← h5, ← h6, ← h1, ← h2, ← h3, ← h4, ← h7]; simp only [decide_eq_true_eq, beq_iff_eq]; omega
            clear hx
            rcases b0 with _ | _
            case true => go_wp2; go_meet; exact ⟨rfl, rfl⟩
            rcases b5 with _ | _
            case true => go_wp2; go_meet; exact ⟨rfl, rfl⟩
            rcases b6 with _ | _
            case true => go_wp2; go_meet; exact ⟨rfl, rfl⟩
            rcases b7 with _ | _ <;> rcases b1 with _ | _ <;> rcases b2 with _ | _ <;> rcases b3 with _ | _ <;> rcases b4 with _ | _ <;> simp only [decide_eq_true_eq, decide_eq_false_iff_not] at h1 h2 h3 h4 h7
            all_goals first | (exfalso; simp at hb; done) | (exfalso; omega) | skip
            all_goals
              clear hb
              go_wp2
              go_meet
              exact ⟨rfl, rfl⟩
          case rest =>
          obtain ⟨rfl, rfl⟩ := hcut
          have hown1 := row_pur hown p1
          go_wp2_with (at_builtin; refine append_int wc rfl _ _ (by rfl) w.heap.size _ acc ch _ _ _ rfl (by rfl) (by rfl) hown1 (by omega) (hpr.trans p1).size ?_)
          intro v7 w7 hown7 hg7
          have P7 : Pur w w7 := ((Chg.of_pur (S := []) ((hpr.trans p1).alloc _)).grown hg7 (fun b hb => .inr (hown1.lt b hb).1)).to_pur (fun b hb => by cases hb)
          go_wp2
          go_roundw
          case rel => exact ⟨i + n, f, acc ++ [ch], by omega, by omega, by go_num, by rw [List.length_append]; exact hown7, P7, by simp; omega, HE⟩
          case measure => simp [intOf]; omega
    · have hi2 : i = l.length := by omega
      subst hi2
      have HD := Lib.hid (show R = some acc by rw [H.out, HS.out, if_neg hlt]; simp)
      have hlt' : ¬ ((l.length : Nat) : Int) < l.length := by omega
      clear H HS hlt hi
      go_wp2
      go_ret2
      rw [HD.out]
      exact ⟨hpr, _, _, rfl, hown⟩
end Te
end Go.Proofs.YtigfcchblfnnbaaGreatDoor
namespace Go.Proofs.YtigfcchblfnnbaaGreatDoor
open Go Go.RowKit
set_option linter.all false
namespace Te
open Tk (Cs ints ints_append ints_length append_int mem_own)
abbrev UW (w : World) : Prop := Lib.Utf8Tabs 6 7 w
theorem spaceRight_any (l : Bs) (w : World) (hT : UW w) (hl : l.length ≤ 1000000) :
    Calls Tryz.prog 70 #[.string ⟨l.toArray⟩] w fun e w' => e = .returned (.bool (spaceR l)) ∧ Pur w w' := by
  have CH := chars_any l w hT hl
  obtain ⟨b, hb⟩ : ∃ b, (l == [104, 116, 116, 112, 58, 47, 47, 119, 119, 119, 46, 119, 51, 46, 111, 114, 103, 47, 50, 48, 48, 48, 47, 120, 109, 108, 110, 115, 47]) = b := ⟨_, rfl⟩
  have hd : decide (l ≠ xmlnsS) = !b := by
    rw [← hb]
    by_cases h : l = xmlnsS
    · rw [h]; decide
    · rw [decide_eq_true h, show (l == [104, 116, 116, 112, 58, 47, 47, 119, 119, 119, 46, 119, 51, 46, 111, 114, 103, 47, 50, 48, 48, 48, 47, 120, 109, 108, 110, 115, 47]) = false by simpa [xmlnsS] using h]; rfl
  unfold spaceR
  rw [hd]
  clear hd
  rcases hc : chars l with _ | cs <;> rw [hc] at CH <;> clear hc
  · go_enter Tryz.func70, Tryz.ntmps70
    go_wp2_with fail
    refine CH.mono ?_
    rintro e w1 ⟨p1, rfl⟩
    clear CH
    go_wp2
    go_ret
    exact ⟨rfl, p1⟩
  · rcases b with _ | _
    all_goals
      go_enter Tryz.func70, Tryz.ntmps70
      go_wp2_with fail
      refine CH.mono ?_
      rintro e w1 ⟨p1, a, c, rfl, hown⟩
      clear CH
      go_wp2
      go_ret
      exact ⟨rfl, p1⟩
theorem loc_step (l : Cs) (i c : Nat) (h : l[i]? = some c) : locGo i (l.drop i) = ((letC c || (decide (i ≠ 0) && digC c)) && locGo (i + 1) (l.drop (i + 1))) := by
  obtain ⟨hi, e⟩ := List.getElem?_eq_some_iff.1 h
  rw [List.drop_eq_getElem_cons hi, e, locGo]
set_option maxRecDepth 100000 in
set_option maxHeartbeats 16000000 in
theorem localRight_any (l : Bs) (w : World) (hT : UW w) (hl : l.length ≤ 1000000) :
    Calls Tryz.prog 69 #[.string ⟨l.toArray⟩] w fun e w' => e = .returned (.bool (localR l)) ∧ Pur w w' := by
  have CH := chars_any l w hT hl
  obtain ⟨R, hR⟩ : ∃ R, localR l = R := ⟨_, rfl⟩
  rw [hR]
  rcases hc : chars l with _ | cs
  · have HE := Lib.hid (show R = false by rw [← hR]; unfold localR; rw [hc])
    rw [hc] at CH
    clear hR hc
    go_enter Tryz.func69, Tryz.ntmps69
    go_wp2_with fail
    refine CH.mono ?_
    rintro e w1 ⟨p1, rfl⟩
    clear CH
    go_wp2
    go_ret
    exact ⟨by rw [HE.out]; rfl, p1⟩
  have HE := Lib.hid (show R = (decide (1 ≤ cs.length) && (decide (cs.length ≤ 48) && locGo 0 cs)) by rw [← hR]; unfold localR; rw [hc])
  rw [hc] at CH
  clear hR hc
  by_cases h1 : ¬ 1 ≤ cs.length
  · have HF := Lib.hid (show R = false by rw [HE.out, decide_eq_false h1]; rfl)
    have d1 : (cs.length : Int) < 1 := by omega
    clear HE h1
    go_enter Tryz.func69, Tryz.ntmps69
    go_wp2_with fail
    refine CH.mono ?_
    rintro e w1 ⟨p1, a, c, rfl, hown⟩
    clear CH
    go_wp2
    go_ret
    exact ⟨by rw [HF.out]; rfl, p1⟩
  have d1 : ¬ (cs.length : Int) < 1 := by omega
  have h1 : 1 ≤ cs.length := by omega
  by_cases h2 : ¬ cs.length ≤ 48
  · have HF := Lib.hid (show R = false by rw [HE.out, decide_eq_false h2, Bool.false_and, Bool.and_false])
    have d2 : (48 : Int) < cs.length := by omega
    clear HE h1 h2
    go_enter Tryz.func69, Tryz.ntmps69
    go_wp2_with fail
    refine CH.mono ?_
    rintro e w1 ⟨p1, a, c, rfl, hown⟩
    clear CH
    go_wp2
    go_ret
    exact ⟨by rw [HF.out]; rfl, p1⟩
  have h2 : cs.length ≤ 48 := by omega
  have d2 : ¬ (48 : Int) < cs.length := by omega
  have HF := Lib.hid (show R = locGo 0 cs by rw [HE.out, decide_eq_true h1, decide_eq_true h2]; rfl)
  clear HE
  go_enter Tryz.func69, Tryz.ntmps69
  go_wp2_with fail
  refine CH.mono ?_
  rintro e w1 ⟨p1, a, c, rfl, hown⟩
  clear CH
  go_wp2
  go_loopw [27] (fun k wx => ∃ (i : Nat), i ≤ cs.length ∧ k = .int .i64 i ∧ wx = w1 ∧ Hid (R = locGo i (cs.drop i))) (fun k _ => cs.length + 1 - (intOf k).toNat)
  case atStart => exact ⟨0, by omega, rfl, rfl, Lib.hid (by rw [HF.out]; rfl)⟩
  case round =>
    obtain ⟨i, hi, rfl, rfl, H⟩ := hrel
    by_cases hlt : i < cs.length
    · have hlt' : (i : Int) < cs.length := by omega
      obtain ⟨ch, hch⟩ : ∃ ch, cs[i]? = some ch := ⟨_, List.getElem?_eq_getElem hlt⟩
      have HS := Lib.hid (loc_step cs i ch hch)
      obtain ⟨g, c', he, hlen, hgl, hcm, hcell⟩ := row_at hown (by omega)
      have k0 := (hcell i (.int .i64 (ch : Int)) (by simp [ints, hch])).1
      cases he
      clear hcell hown hch
      cases hL : letC ch with
      | true =>
        have HG := Lib.hid (show R = locGo (i + 1) (cs.drop (i + 1)) by rw [H.out, HS.out, hL]; rfl)
        unfold letC at hL
        have hL := of_decide_eq_true hL
        clear H HS HF
        go_upto_region 7 with (fail)
        go_cut [7] from 32 to 53 (fun t wx => t = .bool true ∧ wx = wr)
        case first =>
          obtain ⟨b1, h1⟩ : ∃ b, decide ((97 : Int) ≤ ch) = b := ⟨_, rfl⟩
          obtain ⟨b2, h2⟩ : ∃ b, decide ((ch : Int) ≤ 122) = b := ⟨_, rfl⟩
          obtain ⟨b3, h3⟩ : ∃ b, decide ((65 : Int) ≤ ch) = b := ⟨_, rfl⟩
          obtain ⟨b4, h4⟩ : ∃ b, decide ((ch : Int) ≤ 90) = b := ⟨_, rfl⟩
          obtain ⟨b5, h5⟩ : ∃ b, ((ch : Int) == 95) = b := ⟨_, rfl⟩
          obtain ⟨b6, h6⟩ : ∃ b, decide ((127 : Int) < ch) = b := ⟨_, rfl⟩
          have hb : (b1 = true ∧ b2 = true) ∨ (b3 = true ∧ b4 = true) ∨ b5 = true ∨ b6 = true := by
            rw [← h5, ← h6, ← h1, ← h2, ← h3, ← h4]; simp only [decide_eq_true_eq, beq_iff_eq]; omega
          clear hL
          rcases b1 with _ | _ <;> rcases b2 with _ | _ <;> rcases b3 with _ | _ <;> rcases b4 with _ | _ <;> rcases b5 with _ | _ <;> rcases b6 with _ | _
          all_goals first | (exfalso; simp at hb; done) | (exfalso; simp only [decide_eq_true_eq, decide_eq_false_iff_not, beq_iff_eq, beq_eq_false_iff_ne] at h1 h2 h3 h4 h5 h6; omega) | skip
          all_goals
            clear hb
            go_wp2
            go_meet
            exact ⟨rfl, rfl⟩
        case rest =>
        obtain ⟨rfl, rfl⟩ := hcut
        go_wp2
        go_roundw
        case rel => exact ⟨i + 1, by omega, by go_num, trivial, HG⟩
        case measure => simp [intOf]; omega
      | false =>
        unfold letC at hL
        have hL := of_decide_eq_false hL
        by_cases h0 : i = 0
        · subst h0
          have HG := Lib.hid (show R = false by rw [H.out, HS.out]; unfold letC; rw [decide_eq_false hL]; rfl)
          clear H HS HF
          go_upto_region 7 with (fail)
          go_cut [7] from 32 to 53 (fun t wx => t = .bool false ∧ wx = wr)
          case first =>
            obtain ⟨b1, h1⟩ : ∃ b, decide ((97 : Int) ≤ ch) = b := ⟨_, rfl⟩
            obtain ⟨b2, h2⟩ : ∃ b, decide ((ch : Int) ≤ 122) = b := ⟨_, rfl⟩
            obtain ⟨b3, h3⟩ : ∃ b, decide ((65 : Int) ≤ ch) = b := ⟨_, rfl⟩
            obtain ⟨b4, h4⟩ : ∃ b, decide ((ch : Int) ≤ 90) = b := ⟨_, rfl⟩
            have h5 : ((ch : Int) == 95) = false := by simp; omega
            have h6 : decide ((127 : Int) < ch) = false := by simp; omega
            have hb : ¬ (b1 = true ∧ b2 = true) ∧ ¬ (b3 = true ∧ b4 = true) := by
              rw [← h1, ← h2, ← h3, ← h4]; simp only [decide_eq_true_eq]; omega
            clear hL
            rcases b1 with _ | _ <;> rcases b2 with _ | _ <;> rcases b3 with _ | _ <;> rcases b4 with _ | _
            all_goals first | exact absurd ⟨rfl, rfl⟩ hb.1 | exact absurd ⟨rfl, rfl⟩ hb.2 | skip
            all_goals
              clear hb
              go_wp2
              go_meet
              exact ⟨rfl, rfl⟩
          case rest =>
          obtain ⟨rfl, rfl⟩ := hcut
          clear hL
          go_wp2
          go_ret
          exact ⟨by rw [HG.out]; rfl, p1⟩
        · have h0' : ((i : Int) == 0) = false := by simp; omega
          have HG := Lib.hid (show R = (digC ch && locGo (i + 1) (cs.drop (i + 1))) by rw [H.out, HS.out]; unfold letC; rw [decide_eq_false hL, decide_eq_true h0, Bool.false_or, Bool.true_and])
          clear H HS HF
          go_upto_region 7 with (fail)
          go_cut [7] from 32 to 53 (fun t wx => t = .bool false ∧ wx = wr)
          case first =>
            obtain ⟨b1, h1⟩ : ∃ b, decide ((97 : Int) ≤ ch) = b := ⟨_, rfl⟩
            obtain ⟨b2, h2⟩ : ∃ b, decide ((ch : Int) ≤ 122) = b := ⟨_, rfl⟩
            obtain ⟨b3, h3⟩ : ∃ b, decide ((65 : Int) ≤ ch) = b := ⟨_, rfl⟩
            obtain ⟨b4, h4⟩ : ∃ b, decide ((ch : Int) ≤ 90) = b := ⟨_, rfl⟩
            have h5 : ((ch : Int) == 95) = false := by simp; omega
            have h6 : decide ((127 : Int) < ch) = false := by simp; omega
            have hb : ¬ (b1 = true ∧ b2 = true) ∧ ¬ (b3 = true ∧ b4 = true) := by
              rw [← h1, ← h2, ← h3, ← h4]; simp only [decide_eq_true_eq]; omega
            clear hL
            rcases b1 with _ | _ <;> rcases b2 with _ | _ <;> rcases b3 with _ | _ <;> rcases b4 with _ | _
            all_goals first | exact absurd ⟨rfl, rfl⟩ hb.1 | exact absurd ⟨rfl, rfl⟩ hb.2 | skip
            all_goals
              clear hb
              go_wp2
              go_meet
              exact ⟨rfl, rfl⟩
          case rest =>
          obtain ⟨rfl, rfl⟩ := hcut
          clear hL
          cases hD : digC ch with
          | true =>
            have HG2 := Lib.hid (show R = locGo (i + 1) (cs.drop (i + 1)) by rw [HG.out, hD]; rfl)
            unfold digC at hD
            have hD := of_decide_eq_true hD
            clear HG
            go_upto_region 8 with (fail)
            go_cut [76] from 54 to 76 (fun t wx => t = .bool false ∧ wx = wc)
            case first =>
              obtain ⟨b1, h1⟩ : ∃ b, decide ((48 : Int) ≤ ch) = b := ⟨_, rfl⟩
              obtain ⟨b2, h2⟩ : ∃ b, decide ((ch : Int) ≤ 57) = b := ⟨_, rfl⟩
              obtain ⟨b5, h5⟩ : ∃ b, ((ch : Int) == 45) = b := ⟨_, rfl⟩
              obtain ⟨b6, h6⟩ : ∃ b, ((ch : Int) == 46) = b := ⟨_, rfl⟩
              have hb : (b1 = true ∧ b2 = true) ∨ b5 = true ∨ b6 = true := by
                rw [← h5, ← h6, ← h1, ← h2]; simp only [decide_eq_true_eq, beq_iff_eq]; omega
              clear hD
              rcases b1 with _ | _ <;> rcases b2 with _ | _ <;> rcases b5 with _ | _ <;> rcases b6 with _ | _
              all_goals first | (exfalso; simp at hb; done) | (exfalso; simp only [decide_eq_true_eq, decide_eq_false_iff_not, beq_iff_eq, beq_eq_false_iff_ne] at h1 h2 h5 h6; omega) | skip
              all_goals
                clear hb
                go_wp2
                go_meet
                exact ⟨rfl, rfl⟩
            case rest =>
            obtain ⟨rfl, rfl⟩ := hcut
            go_wp2
            go_roundw
            case rel => exact ⟨i + 1, by omega, by go_num, trivial, HG2⟩
            case measure => simp [intOf]; omega
          | false =>
            have HG2 := Lib.hid (show R = false by rw [HG.out, hD]; rfl)
            unfold digC at hD
            have hD := of_decide_eq_false hD
            clear HG
            obtain ⟨b1, h1⟩ : ∃ b, decide ((48 : Int) ≤ ch) = b := ⟨_, rfl⟩
            obtain ⟨b2, h2⟩ : ∃ b, decide ((ch : Int) ≤ 57) = b := ⟨_, rfl⟩
            have h5 : ((ch : Int) == 45) = false := by simp; omega
            have h6 : ((ch : Int) == 46) = false := by simp; omega
            have hb : ¬ (b1 = true ∧ b2 = true) := by rw [← h1, ← h2]; simp only [decide_eq_true_eq]; omega
            clear hD
            rcases b1 with _ | _ <;> rcases b2 with _ | _
            all_goals first | exact absurd ⟨rfl, rfl⟩ hb | skip
            all_goals
              clear hb
              go_wp2
              go_ret
              exact ⟨by rw [HG2.out]; rfl, p1⟩
    · have hi2 : i = cs.length := by omega
      subst hi2
      have HD := Lib.hid (show R = true by rw [H.out, List.drop_length, locGo])
      have hlt' : ¬ ((cs.length : Nat) : Int) < cs.length := by omega
      clear H hlt hi HF
      go_wp2
      go_ret
      exact ⟨by rw [HD.out]; rfl, p1⟩
end Te
end Go.Proofs.YtigfcchblfnnbaaGreatDoor
