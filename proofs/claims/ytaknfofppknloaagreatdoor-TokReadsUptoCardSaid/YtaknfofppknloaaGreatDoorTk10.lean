/- Layer 2: a tag's attributes. -/
import Derived.Test.YtaknfofppknloaaGreatDoorTk9
namespace Go.Proofs.YtaknfofppknloaaGreatDoor
open Go Go.RowKit
set_option linter.all false
namespace Tk
theorem attr_info : (Tryz.prog.info? 40).map (fun i => (i.zero.map (·.cells.size), i.size, i.bytes)) = some (some 4, 4, 48) := by kernel_rfl
theorem tok_info : (Tryz.prog.info? 38).map (fun i => (i.zero.map (·.cells.size), i.size, i.bytes)) = some (some 7, 7, 88) := by kernel_rfl
/-- append of one element that lies in a block of its own, just made -/
theorem append_new {ops : Array Oper} {rest : List Oper} {o : Oper} {a : Act} {Q : Exit → Act → World → Prop} (w0 : World) (hg : o.guard = none) (s x : Operand) (t e : TypeId) (size bytes : Nat)
    (hinfo : (Tryz.prog.info? e).map (fun i => (i.zero.map (·.cells.size), i.size, i.bytes)) = some (some size, size, bytes)) (ht : Tryz.prog.underlying t = some (.slice e)) (hsz : 0 < size) (hby : bytes ≤ 1000)
    (hop : o.op = .call { callee := .builtin .append, args := #[s, x], argTypes := #[t, t] }) (B : Nat) (v : Value) (n : Nat) (xs : List Value) (e' : TypeId) (f : Nat × Nat) (news : List Value) (hnew : news.length = size) (h1 : ∀ u ∈ news, u.oneCell' = true)
    (hs : a.eval s = v) (N : Nat) (hN : N = w0.heap.size) (hx : a.eval x = .slice (some ⟨N, 0, none⟩) 1 1) (hown : w0.ownsRow B e size v n xs) (hlen : n ≤ 1000000) (hB : B ≤ w0.heap.size)
    (h : ∀ v' w', w'.ownsRow B e size v' (n + 1) (xs ++ news) → (w0.alloc (.cells news.toArray e' f)).grownBy w' v.ownBlock → (v'.ownBlock = v.ownBlock ∨ v'.ownBlock = some (w0.heap.size + 1)) → wpList Tryz.prog ops Q rest (a.put o.dst v') w') :
    wpList Tryz.prog ops Q (o :: rest) a (w0.alloc (.cells news.toArray e' f)) := by
  subst hN
  obtain ⟨i0, hi, hz⟩ := Option.map_eq_some_iff.1 hinfo
  simp only [Prod.mk.injEq] at hz
  obtain ⟨hz0, hz1, hz2⟩ := hz
  obtain ⟨z0, hz0, hzs⟩ := Option.map_eq_some_iff.1 hz0
  have hsz' : (w0.alloc (.cells news.toArray e' f)).heap.size = w0.heap.size + 1 := Array.size_push _
  refine wpList_append_own_at _ hg s x t hop B e i0 z0 size bytes ht hi hz0 hz1 hz2 hzs hsz v n xs hs ?_ ⟨w0.heap.size, 0, none⟩ 1 1 news hx (by rw [hnew, Nat.one_mul]) ?_ h1 ?_ ?_ ?_ ?_
  · exact row_pur hown ((Pur.refl w0).alloc _)
  · intro j u hj
    have : (Addr.mk w0.heap.size 0 none).add j = ⟨w0.heap.size, j, none⟩ := by unfold Addr.add; split <;> simp_all
    rw [this, World.cell?_alloc_mark]
    simpa using hj
  · unfold maxLen; omega
  · have : (n + 1) * bytes ≤ 1000001 * 1000 := Nat.mul_le_mul (by omega) hby
    omega
  · rw [hsz']; omega
  · intro v' w' h1 h2 _ h4
    refine h v' w' h1 h2 ?_
    rw [hsz'] at h4
    exact h4
/-- how 'attrs' ends: a new row of attributes -/
def Atts (p : Pl) (d : Sd) (w : World) (r : R (List Attr)) (e : Ending) (w' : World) : Prop := match r with
  | .ok (l, q) => ∃ v, e = .returned v ∧ Went p d w q w' ∧ w'.ownsRow w.heap.size 40 4 v l.length ((l.map (Attr.fin d.cs)).flatMap AttrV.cells)
  | .error (k, n) => Flt [p.s] w d.cs (d.cs.length - k) n e w'
theorem takeC_ok {c : Nat} {xs q : Cs} {u : Unit} (h : takeC c xs = .ok (u, q)) : q.length < xs.length := by
  cases xs with
  | nil => simp [takeC] at h
  | cons x r =>
    simp only [takeC] at h
    split at h
    · cases h; simp
    · cases h
theorem blanks_le (xs : Cs) : (blanks xs).length ≤ xs.length := (List.dropWhile_sublist _).length_le
theorem At.set_other {w : World} {p : Pl} {d : Sd} (h : At w p d) {a : Addr} (ha : a.block ∉ p.all) (v : Value) : At (w.setCell a v) p d :=
  h.same fun b hb => by rw [RowKit.Below.heap_setCell _ _ _ _ (fun e => ha (e ▸ hb))]
theorem row_set {w : World} {base : Nat} {e : TypeId} {size : Nat} {v : Value} {n : Nat} {xs : List Value} (h : w.ownsRow base e size v n xs) {a : Addr} (ha : v.ownBlock ≠ some a.block) (u : Value) : (w.setCell a u).ownsRow base e size v n xs :=
  row_same h fun g hg => by rw [RowKit.Below.heap_setCell _ _ _ _ (fun e => ha (by rw [hg, e]))]
/-- are there blanks? -/
def blk (xs : Cs) : Bool := decide ((blanks xs).length < xs.length)
theorem blanks_b {w : World} {p : Pl} {d : Sd} (h : At w p d) (hi : d.i ≤ d.cs.length) : Calls Tryz.prog 56 #[.pointer (some ⟨p.s, 0, none⟩)] w fun e w' => e = .returned (.bool (blk d.rest)) ∧ Went p d w (blanks d.rest) w' := blanks_any h hi
theorem attrs_step {f : Nat} {xs z : Cs} {acc : List Attr} {a : Attr} {r : R (List Attr)} (h : r = (attrsGo (f + 1) xs).and fun l z => .ok (acc ++ l, z)) (g : attrsGo (f + 1) xs = (attrsGo f z).and fun l z => .ok (a :: l, z)) :
    r = (attrsGo f z).and fun l z => .ok ((acc ++ [a]) ++ l, z) := by
  rw [h, g]
  rcases attrsGo f z with x | ⟨x, q⟩
  · rfl
  · simp
set_option maxRecDepth 100000 in
set_option maxHeartbeats 16000000 in
theorem attrs_any {w : World} {p : Pl} {d : Sd} (h : At w p d) (hi : d.i ≤ d.cs.length) : Calls Tryz.prog 52 #[.pointer (some ⟨p.s, 0, none⟩)] w fun e w' => Atts p d w (attrs d.rest) e w' := by
  have hcl := h.clen
  have hps := bk_lt h.own
  have hrl := rest_len (d := d)
  go_enter Tryz.func52, Tryz.ntmps52
  go_wp2
  go_loopw [3] (fun v wr => ∃ (j f : Nat) (acc : List Attr), d.i ≤ j ∧ j ≤ d.cs.length ∧ d.cs.length < j + f ∧ At wr p { d with i := j } ∧ Chg [p.s] w wr ∧ acc.length + d.i ≤ j ∧ wr.ownsRow w.heap.size 40 4 v acc.length ((acc.map (Attr.fin d.cs)).flatMap AttrV.cells) ∧ Hid (attrs d.rest = (attrsGo f (d.cs.drop j)).and fun l z => .ok (acc ++ l, z))) (fun _ wr => d.cs.length + 1 - natAt wr ⟨p.s, 1, none⟩)
  case atStart => exact ⟨d.i, d.rest.length + 1, [], by omega, hi, by omega, h, Chg.refl _ _, by simp, World.ownsRow_nil _ _ _ _, Lib.hid (by unfold attrs Sd.rest; rcases attrsGo ((d.cs.drop d.i).length + 1) (d.cs.drop d.i) with x | ⟨x, z⟩ <;> rfl)⟩
  case round =>
    obtain ⟨j, f, acc, j1, j2, j3, k3, k4, hal, hown, H⟩ := hrel
    obtain ⟨f, rfl⟩ : ∃ g, f = g + 1 := ⟨f - 1, by omega⟩
    have hsz := k4.size
    have e3 := k3.nat
    have BL := blanks_b k3 j2
    simp only [Sd.rest] at BL
    have hlow : ∀ (u : Value) (w' : World) n xs, w'.ownsRow w.heap.size 40 4 u n xs → ∀ g, u.ownBlock = some g → g ∉ [p.s] := fun u w' n xs hx g hg hm => by have := (hx.lt g hg).1; simp only [List.mem_singleton] at hm; omega
    rcases hb1 : blk (d.cs.drop j) with _ | _
    · -- no blanks: the end
      rw [hb1] at BL
      have HS := Lib.hid (show attrs d.rest = .ok (acc, blanks (d.cs.drop j)) by
        have hno : ¬ ((blanks (d.cs.drop j)).length < (d.cs.drop j).length ∧ hd begins (blanks (d.cs.drop j)) = true) := fun g => by
          have := g.1
          simp only [blk, decide_eq_false_iff_not] at hb1
          exact hb1 this
        rw [H.out, attrsGo, if_neg hno]
        simp)
      go_wp2_with fail
      refine BL.mono ?_
      rintro e w1 ⟨rfl, i1, a1, a2, a3, h1, c1⟩
      simp only at a1 a2 a3 h1
      have hown1 := row_chg hown c1 (hlow _ _ _ _ hown)
      go_wp2
      go_ret
      rw [HS.out]
      exact ⟨_, rfl, ⟨i1, a1, by omega, a3, h1, k4.trans c1⟩, hown1⟩
    rw [hb1] at BL
    rcases g2 : hd begins (blanks (d.cs.drop j)) with _ | _
    · -- no name behind them: the end
      have HS := Lib.hid (show attrs d.rest = .ok (acc, blanks (d.cs.drop j)) by
        have hno : ¬ ((blanks (d.cs.drop j)).length < (d.cs.drop j).length ∧ hd begins (blanks (d.cs.drop j)) = true) := fun g => by
          rw [g2] at g
          cases g.2
        rw [H.out, attrsGo, if_neg hno]
        simp)
      go_wp2_with fail
      refine BL.mono ?_
      rintro e w1 ⟨rfl, i1, a1, a2, a3, h1, c1⟩
      simp only at a1 a2 a3 h1
      rw [← a1] at g2
      replace a1 := Lib.hid a1
      have P1 := peek_any h1
      have B1 := fun w => begins_any (pk (d.cs.drop i1)) w (pk_bd h1 i1).1
      rw [on_pk, g2] at B1
      simp only [Sd.rest] at P1
      go_wp2_with fail
      refine P1.mono ?_
      rintro e w2 ⟨rfl, p2⟩
      go_wp2_with fail
      refine (B1 _).mono ?_
      rintro e w3 ⟨rfl, rfl⟩
      have hown1 := row_pur (row_chg hown c1 (hlow _ _ _ _ hown)) p2
      go_wp2
      go_ret
      rw [HS.out]
      exact ⟨_, rfl, ⟨i1, a1.out, by omega, a3, h1.pur p2, (k4.trans c1).pur p2⟩, hown1⟩
    have g1 : (blanks (d.cs.drop j)).length < (d.cs.drop j).length := by simpa [blk] using hb1
    have HG := Lib.hid (show attrsGo (f + 1) (d.cs.drop j) = (name (blanks (d.cs.drop j))).and fun nm r1 => (takeC 61 (blanks r1)).and fun _ r2 => (value (blanks r2)).and fun v r3 => (attrsGo f r3).and fun l z => .ok (⟨nm, v, (blanks (d.cs.drop j)).length⟩ :: l, z) by
      rw [attrsGo, if_pos ⟨g1, g2⟩])
    clear hb1
    go_wp2_with fail
    refine BL.mono ?_
    rintro e w1 ⟨rfl, i1, a1, a2, a3, h1, c1⟩
    simp only at a1 a2 a3 h1
    rw [← a1] at g1 g2 HG
    clear a1
    have P1 := peek_any h1
    have B1 := fun w => begins_any (pk (d.cs.drop i1)) w (pk_bd h1 i1).1
    rw [on_pk, g2] at B1
    simp only [Sd.rest] at P1
    have G1 := k4.trans c1
    have hown1 := row_chg hown c1 (hlow _ _ _ _ hown)
    rw [List.length_drop, List.length_drop] at g1
    clear BL
    go_wp2_with fail
    refine P1.mono ?_
    rintro e w2 ⟨rfl, p2⟩
    go_wp2_with fail
    refine (B1 _).mono ?_
    rintro e w3 ⟨rfl, rfl⟩
    have h2 := h1.pur p2
    have hc2 := h2.c1
    simp only at hc2
    have G2 := G1.pur p2
    have hown2 := row_pur hown1 p2
    clear P1 B1
    go_wp2_with fail
    refine (place_any h2 i1 (by omega)).mono ?_
    rintro e w3 ⟨rfl, p3⟩
    have h3 := h2.pur p3
    have G3 := G2.pur p3
    have hown3 := row_pur hown2 p3
    -- the attribute's own block
    have p4 : Pur w3 (w3.alloc (.cells #[.string ⟨#[]⟩, .string ⟨#[]⟩, .int .i64 ((place d.cs i1).1 : Int), .int .i64 ((place d.cs i1).2 : Int)] 40)) := (Pur.refl w3).alloc _
    have h4 := h3.pur p4
    have G4 := G3.pur p4
    have hown4 := row_pur hown3 p4
    have K4 := bk_new w3 (.cells #[.string ⟨#[]⟩, .string ⟨#[]⟩, .int .i64 ((place d.cs i1).1 : Int), .int .i64 ((place d.cs i1).2 : Int)] 40)
    have hL : p.s < w3.heap.size := Nat.lt_of_lt_of_le hps G3.size
    have hLa : w3.heap.size ∉ p.all := fun hm => by have := h3.lt _ hm; omega
    have hLw : w.heap.size ≤ w3.heap.size := G3.size
    have hLo : ∀ g, u3.ownBlock = some g → g ≠ w3.heap.size := fun g hg e => by have := (hown3.lt g hg).2; omega
    have NM := name_any h4 (by simp only; omega)
    simp only [Sd.rest] at NM
    have HP := Lib.hid (show (Attr.fin d.cs ⟨[], [], (d.cs.drop i1).length⟩).at_ = place d.cs i1 by
      simp only [Attr.fin]
      rw [List.length_drop, show d.cs.length - (d.cs.length - i1) = i1 by omega])
    generalize hB : w3.heap.size = LB at *
    rcases hn : name (d.cs.drop i1) with ⟨k, n⟩ | ⟨nm, r1⟩
    · rw [hn] at NM HG
      have HS := Lib.hid (show attrs d.rest = .error (k, n) by rw [H.out, HG.out]; rfl)
      clear HG H K4 hown hown1 hown2 hown3 hown4
      go_wp2_with fail
      refine NM.mono ?_
      intro e w6 hf
      obtain ⟨b, rfl, hf2⟩ := id hf
      go_wp2
      refine ⟨rfl, ?_⟩
      rw [HS.out]
      exact Flt.after G4 hf
    rw [hn] at NM HG
    simp only [and_ok] at HG
    clear hn
    go_wp2_with fail
    refine NM.mono ?_
    rintro e w5 ⟨rfl, i5, a5, b5, d5, h5, c5⟩
    simp only at a5 b5 d5 h5
    have K5 := bk_chg K4 c5 (by simp; omega)
    have G5 := G4.trans c5
    have hown5 := row_chg hown4 c5 (hlow _ _ _ _ hown4)
    have x0 := bk_cell K5 0 _ rfl
    have f0 := bk_free K5 0
    have K6 := bk_set K5 0 (.string ⟨(narrow nm).toArray⟩)
    have h6 := h5.set_other (a := ⟨LB, 0, none⟩) hLa (.string ⟨(narrow nm).toArray⟩)
    have G6 := G5.setCell (a := ⟨LB, 0, none⟩) (.inr hLw) (.string ⟨(narrow nm).toArray⟩)
    have hown6 := row_set hown5 (a := ⟨LB, 0, none⟩) (fun e => hLo _ e rfl) (.string ⟨(narrow nm).toArray⟩)
    have B6 := blanks_b h6 d5
    simp only [Sd.rest] at B6
    rw [a5] at B6
    clear a5
    clear NM hown hown1 hown2 hown3 hown4 hown5 K4 K5 h1 h2 h3 h4 h5 c1 c5 G1 G2 G3 G4 G5 p2 p3 p4 hc2
    go_wp2_with fail
    refine B6.mono ?_
    rintro e w7 ⟨rfl, i7, a7, b7, d7, h7, c7⟩
    simp only at a7 b7 d7 h7
    have K7 := bk_chg K6 c7 (by simp; omega)
    have G7 := G6.trans c7
    have hown7 := row_chg hown6 c7 (hlow _ _ _ _ hown6)
    have T7 := take_any h7 d7 61
    simp only [Sd.rest] at T7
    rw [show (61 : UInt8).toNat = 61 from rfl, a7] at T7
    clear a7
    clear B6 x0 f0
    rcases ht : takeC 61 (blanks r1) with ⟨k, n⟩ | ⟨u, r2⟩
    · rw [ht] at T7 HG
      have HS := Lib.hid (show attrs d.rest = .error (k, n) by rw [H.out, HG.out]; rfl)
      clear HG H
      go_wp2_with fail
      refine T7.mono ?_
      intro e w6 hf
      obtain ⟨b, rfl, hf2⟩ := id hf
      go_wp2
      refine ⟨rfl, ?_⟩
      rw [HS.out]
      exact Flt.after G7 hf
    rw [ht] at T7 HG
    simp only [and_ok] at HG
    clear ht
    go_wp2_with fail
    refine T7.mono ?_
    rintro e w8 ⟨rfl, i8, a8, b8, d8, h8, c8⟩
    simp only at a8 b8 d8 h8
    have K8 := bk_chg K7 c8 (by simp; omega)
    have G8 := G7.trans c8
    have hown8 := row_chg hown7 c8 (hlow _ _ _ _ hown7)
    have B8 := blanks_b h8 d8
    simp only [Sd.rest] at B8
    rw [a8] at B8
    clear a8
    clear T7
    go_wp2_with fail
    refine B8.mono ?_
    rintro e w9 ⟨rfl, i9, a9, b9, d9, h9, c9⟩
    simp only at a9 b9 d9 h9
    have K9 := bk_chg K8 c9 (by simp; omega)
    have G9 := G8.trans c9
    have hown9 := row_chg hown8 c9 (hlow _ _ _ _ hown8)
    have V9 := value_any h9 d9
    simp only [Sd.rest] at V9
    rw [a9] at V9
    clear a9
    clear B8
    rcases hv : value (blanks r2) with ⟨k, n⟩ | ⟨v, r3⟩
    · rw [hv] at V9 HG
      have HS := Lib.hid (show attrs d.rest = .error (k, n) by rw [H.out, HG.out]; rfl)
      clear HG H
      go_wp2_with fail
      refine V9.mono ?_
      intro e w6 hf
      obtain ⟨b, rfl, hf2⟩ := id hf
      go_wp2
      refine ⟨rfl, ?_⟩
      rw [HS.out]
      exact Flt.after G9 hf
    rw [hv] at V9 HG
    simp only [and_ok] at HG
    clear hv
    go_wp2_with fail
    refine V9.mono ?_
    rintro e w10 ⟨rfl, i10, a10, b10, d10, h10, c10⟩
    simp only at a10 b10 d10 h10
    replace a10 := Lib.hid a10
    have K10 := bk_chg K9 c10 (by simp; omega)
    have G10 := G9.trans c10
    have hown10 := row_chg hown9 c10 (hlow _ _ _ _ hown9)
    have f1 := bk_free K10 1
    have x1 := bk_cell K10 1 _ rfl
    have K11 := bk_set K10 1 (.string ⟨(narrow v).toArray⟩)
    have h11 := h10.set_other (a := ⟨LB, 1, none⟩) hLa (.string ⟨(narrow v).toArray⟩)
    have G11 := G10.setCell (a := ⟨LB, 1, none⟩) (.inr hLw) (.string ⟨(narrow v).toArray⟩)
    have hown11 := row_set hown10 (a := ⟨LB, 1, none⟩) (fun e => hLo _ e rfl) (.string ⟨(narrow v).toArray⟩)
    have y0 := bk_cell K11 0 (.string ⟨(narrow nm).toArray⟩) rfl
    have y1 := bk_cell K11 1 (.string ⟨(narrow v).toArray⟩) rfl
    have y2 := bk_cell K11 2 (.int .i64 ((place d.cs i1).1 : Int)) rfl
    have y3 := bk_cell K11 3 (.int .i64 ((place d.cs i1).2 : Int)) rfl
    have HS := Lib.hid (attrs_step H.out HG.out)
    have hacc : (((acc ++ [(⟨nm, v, (d.cs.drop i1).length⟩ : Attr)]).map (Attr.fin d.cs)).flatMap AttrV.cells) = ((acc.map (Attr.fin d.cs)).flatMap AttrV.cells) ++ [.string ⟨(narrow nm).toArray⟩, .string ⟨(narrow v).toArray⟩, .int .i64 ((place d.cs i1).1 : Int), .int .i64 ((place d.cs i1).2 : Int)] := by
      have hq : d.cs.length - (d.cs.length - i1) = i1 := by omega
      simp [AttrV.cells, Attr.fin, hq]
    clear V9 H HG HP K6 K7 K8 K9 K10 hown6 hown7 hown8 hown9 hown10 h6 h7 h8 h9 h10 c7 c8 c9 c10
    go_wp2_with (at_builtin; refine append_new (w10.setCell ⟨LB, 1, none⟩ (.string ⟨(narrow v).toArray⟩)) rfl _ _ 36 40 4 48 attr_info Tryz.underlying36 (by decide) (by decide) (by rfl) w.heap.size _ acc.length _ _ _ [.string ⟨(narrow nm).toArray⟩, .string ⟨(narrow v).toArray⟩, .int .i64 ((place d.cs i1).1 : Int), .int .i64 ((place d.cs i1).2 : Int)] rfl ?c1 (by rfl) w10.heap.size (by simp [World.setCell]) (by rfl) hown11 (by omega) G11.size ?_)
    case c1 => intro u hu; simp at hu; rcases hu with rfl | rfl | rfl | rfl <;> rfl
    intro v12 w12 hown12 hg12 _
    have hlt12 : ∀ b, u3.ownBlock = some b → w.heap.size ≤ b := fun b hb => (hown11.lt b hb).1
    have G12 : Chg [p.s] w w12 := (G11.alloc _).grown hg12 (fun b hb => .inr (hlt12 b hb))
    have h12 : At w12 p { d with i := i10 } := (h11.pur ((Pur.refl _).alloc _)).same fun b hb => hg12.block b (Nat.lt_of_lt_of_le (h11.lt b hb) ((Pur.refl _).alloc _).size) (fun e => by have q1 := hlt12 b e.symm; have q2 := h.lt b hb; omega)
    have e12 := h12.nat
    go_wp2
    go_roundw
    case rel => exact ⟨i10, f, acc ++ [⟨nm, v, (d.cs.drop i1).length⟩], by omega, d10, by omega, h12, G12, by simp; omega, by rw [List.length_append, hacc]; exact hown12, a10.out ▸ HS⟩
    case measure => rw [e3, e12]; simp only; omega
end Tk
end Go.Proofs.YtaknfofppknloaaGreatDoor
