/- TokRises: the places of the tokens rise, texts have characters, and none stands beside another. -/
import Derived.Test.YtaknfofppknloaaDoorTk24
namespace Go.Proofs.YtaknfofppknloaaDoor
open Go Go.RowKit
set_option linter.all false
namespace Tk
set_option maxRecDepth 100000 in
theorem behind_any {a b : Nat × Nat} (h : behind a b) (w : World) : Calls Tryd.prog 9 #[.agg #[.int .i64 (a.1 : Int), .int .i64 (a.2 : Int)], .agg #[.int .i64 (b.1 : Int), .int .i64 (b.2 : Int)]] w fun e w' => e = .returned (.bool true) ∧ Pur w w' := by
  obtain ⟨a1, a2⟩ := a
  obtain ⟨b1, b2⟩ := b
  unfold behind at h
  simp only at h ⊢
  have hp := ((Pur.refl w).alloc (.cells #[.int .i64 (a1 : Int), .int .i64 (a2 : Int)] 30)).alloc (.cells #[.int .i64 (b1 : Int), .int .i64 (b2 : Int)] 30)
  rcases h with h | ⟨rfl, h⟩
  · have h2 : ¬ a1 ≤ b1 := by omega
    go_enter Tryd.func9, Tryd.ntmps9
    go_wp2
    all_goals
      go_ret
      refine ⟨?_, hp⟩
      simp [h]
  · have h2 : ¬ a2 ≤ b2 := by omega
    go_enter Tryd.func9, Tryd.ntmps9
    go_wp2
    all_goals
      go_ret
      refine ⟨?_, hp⟩
      simp [h]
theorem tok_ways (t : TokV) (h1 : t.kind = 1 ∨ t.kind = 2 ∨ t.kind = 3) (h2 : t.kind = 3 ↔ t.text ≠ []) (h3 : t.kind = 3 ↔ t.nm = []) (h4 : t.kind ≠ 1 → t.attrs = [] ∧ t.empty = false) :
    (∃ b m ta tp te, t = ⟨1, b :: m, ta, [], tp, te⟩) ∨ (∃ b m ta tp, ¬ 0 < ta.length ∧ t = ⟨2, b :: m, ta, [], tp, false⟩) ∨ (∃ b m ta tp, ¬ 0 < ta.length ∧ t = ⟨3, [], ta, b :: m, tp, false⟩) := by
  obtain ⟨tk, tn, ta, tt, tp, te⟩ := t
  simp only at h1 h2 h3 h4
  rcases h1 with rfl | rfl | rfl
  · have e1 : tt = [] := by
      cases tt with
      | nil => rfl
      | cons b m => exact absurd (h2.2 (by simp)) (by decide)
    cases tn with
    | nil => exact absurd (h3.2 rfl) (by decide)
    | cons b m => exact .inl ⟨b, m, ta, tp, te, by rw [e1]⟩
  · have e1 : tt = [] := by
      cases tt with
      | nil => rfl
      | cons b m => exact absurd (h2.2 (by simp)) (by decide)
    obtain ⟨rfl, rfl⟩ := h4 (by decide)
    cases tn with
    | nil => exact absurd (h3.2 rfl) (by decide)
    | cons b m => exact .inr (.inl ⟨b, m, [], tp, by simp, by rw [e1]⟩)
  · obtain ⟨rfl, rfl⟩ := h4 (by decide)
    have e1 := h3.1 rfl
    subst e1
    cases tt with
    | nil => exact absurd rfl (h2.1 rfl)
    | cons b m => exact .inr (.inr ⟨b, m, [], tp, by simp, rfl⟩)
set_option maxRecDepth 100000 in
set_option maxHeartbeats 8000000 in
theorem rises_law (l : List UInt8) (w : World) (hW : TW w) (hl : l.length ≤ 1000000000) : Calls Tryd.prog 3 #[.string ⟨l.toArray⟩] w fun e w' => e = .returned (.bool true) ∧ Pur w w' := by
  by_cases hlong : 3000 < l.length
  · have d1 : decide (3000 < (l.length : Int)) = true := by simp; omega
    clear hlong
    go_enter Tryd.func3, Tryd.ntmps3
    go_wp2_with fail
    refine (awake_any w hW).mono ?_
    rintro e w1 ⟨rfl, p1⟩
    go_wp2
    go_ret
    exact ⟨rfl, p1⟩
  · have d1 : decide (3000 < (l.length : Int)) = false := by simp; omega
    have T0 := fun w hW => tokens_told l w hW
    have RV := fun ts (h : whole l = .ok ts) => whole_rise h
    generalize whole l = r at T0 RV
    go_enter Tryd.func3, Tryd.ntmps3
    go_wp2_with fail
    refine (awake_any w hW).mono ?_
    rintro e w1 ⟨rfl, p1⟩
    go_wp2_with fail
    refine (T0 _ (hW.pur p1)).mono ?_
    rintro e w2 ⟨v, ev, rfl, p2, t1⟩
    have hp2 := p1.trans p2
    clear T0 hlong
    rcases r with ⟨pos, n⟩ | ts
    · obtain ⟨rfl, b, rfl, -⟩ := t1
      clear RV
      go_wp2
      go_ret
      exact ⟨rfl, hp2⟩
    · obtain ⟨rfl, hR⟩ := t1
      obtain ⟨rk, rt, rn, rb, ra0, ra, rd⟩ := RV ts rfl
      obtain ⟨a, c, rfl, ⟨hc, hm⟩, -⟩ := id hR
      clear RV
      go_wp2
      go_loopw [27] (fun k wr => ∃ n : Nat, n ≤ ts.length ∧ k = .int .i64 n ∧ Pur w2 wr) (fun k _ => ts.length + 1 - (intOf k).toNat)
      case atStart => exact ⟨0, by omega, rfl, Pur.refl w2⟩
      case round =>
        obtain ⟨n, hn, rfl, hpr⟩ := hrel
        by_cases hlt : n < ts.length
        · have hlt2 : (n : Int) < ts.length := by omega
          have hc' : (ts.length : Int) ≤ c := by omega
          have wn : IntKind.i64.wrap ((n : Int) + 1) = (n : Int) + 1 := IntWalk.i64_in _ (by omega)
          obtain ⟨t, ht⟩ : ∃ t, ts[n]? = some t := ⟨ts[n], List.getElem?_eq_getElem hlt⟩
          obtain ⟨a', c', e4, -, HA⟩ := hR.pur hpr
          simp only [Value.slice.injEq] at e4
          obtain ⟨rfl, -, rfl⟩ := e4
          obtain ⟨g, av, rfl, hg, k0, k1, k2, k3, k4, k5, k6, k7⟩ := HA n t ht
          have hmem := List.mem_of_getElem? ht
          obtain ⟨a1, a2, rfl, ⟨hac, ham⟩, -⟩ := id k7
          have AW := fun (wx : World) (hx : Pur wr wx) => k7.pur hx
          have at0 := fun a (ha : t.attrs[0]? = some a) => (ra0 t hmem a (List.mem_of_getElem? ha)).2
          have AN := fun m a (ha : t.attrs[m]? = some a) => (ra0 t hmem a (List.mem_of_getElem? ha)).1
          have AB := ra t hmem
          -- the one before
          have PV : n = 0 ∨ ∃ (m : Nat) (s : TokV), n = m + 1 ∧ ts[m]? = some s ∧ behind t.at_ s.at_ ∧ ¬ (s.kind = 3 ∧ t.kind = 3) ∧
              ∀ wx, Pur wr wx → wx.cell? ⟨g, m * 7, none⟩ = some (.int .i64 (s.kind : Int)) ∧ wx.cell? ⟨g, m * 7 + 4, none⟩ = some (.int .i64 (s.at_.1 : Int)) ∧ wx.cell? ⟨g, m * 7 + 5, none⟩ = some (.int .i64 (s.at_.2 : Int)) := by
            rcases Nat.eq_zero_or_pos n with h0 | h0
            · exact .inl h0
            · have hm1 : n - 1 < ts.length := by omega
              have hs : ts[n - 1]? = some ts[n - 1] := List.getElem?_eq_getElem hm1
              have hd := rd (n - 1) _ t hs (by rw [show n - 1 + 1 = n by omega]; exact ht)
              refine .inr ⟨n - 1, ts[n - 1], by omega, hs, hd.1, hd.2, fun wx hx => ?_⟩
              obtain ⟨a'', c'', e5, -, HA'⟩ := hR.pur (hpr.trans hx)
              simp only [Value.slice.injEq] at e5
              obtain ⟨rfl, -, rfl⟩ := e5
              obtain ⟨g', av', e6, -, q0, -, -, -, q4, q5, -⟩ := HA' (n - 1) _ hs
              cases e6
              exact ⟨q0, q4, q5⟩
          have TW3 := tok_ways t (rk t hmem) (rt t hmem) (rn t hmem) (rb t hmem)
          clear rk rt rn rb ra0 ra rd HA k7 ht hmem hR
          obtain ⟨W3, hW3⟩ : ∃ W3, W3 = wr.alloc (.cells #[.int .i64 (t.kind : Int), .string ⟨t.nm.toArray⟩, .slice a1 t.attrs.length a2, .string ⟨t.text.toArray⟩, .int .i64 (t.at_.1 : Int), .int .i64 (t.at_.2 : Int), .bool t.empty] 32) := ⟨_, rfl⟩
          have p3 : Pur wr W3 := by rw [hW3]; exact (Pur.refl wr).alloc _
          have BK : W3.heap[wr.heap.size]? = some (.cells #[.int .i64 (t.kind : Int), .string ⟨t.nm.toArray⟩, .slice a1 t.attrs.length a2, .string ⟨t.text.toArray⟩, .int .i64 (t.at_.1 : Int), .int .i64 (t.at_.2 : Int), .bool t.empty] 32 (0, 0)) := by rw [hW3]; exact bk_new wr _
          rcases TW3 with ⟨b, m0, ta, tp, te, rfl⟩ | ⟨b, m0, ta, tp, hta, rfl⟩ | ⟨b, m0, ta, tp, hta, rfl⟩
          · rcases PV with h0 | ⟨m, s, hnm, hs, hbd, hkk, PC⟩
            · have hz : ¬ 0 < n := by omega
              clear h0
              simp only [Int.cast_ofNat_Int, List.length_nil] at k0 k1 k2 k3 k4 k5 k6 AW at0 AN AB ham hac hW3 BK
              have C0 : ∀ x : PW W3, x.to.cell? ⟨wr.heap.size, 0, none⟩ = _ := fun x => bk_cell (bk_pur BK x.pur) 0 _ rfl
              go_wp2
              rw [← hW3]
              refine wp_region_pur (by kernel_rfl) (by kernel_rfl) ?_
              repeat (go_big_quiet_step (fail))
              refine wpQuiet_nil ?_
              intro wq hq
              have hB : wq.heap[wr.heap.size]? = _ := bk_pur BK hq
              have D0 := bk_cell hB 0 _ rfl
              have D1 := bk_cell hB 1 _ rfl
              have D2 := bk_cell hB 2 _ rfl
              have D3 := bk_cell hB 3 _ rfl
              have D4 := bk_cell hB 4 _ rfl
              have D5 := bk_cell hB 5 _ rfl
              have D6 := bk_cell hB 6 _ rfl
              have pq := p3.trans hq
              have bl := bk_new wq (.cells #[.int .i64 (tp.1 : Int), .int .i64 (tp.2 : Int)] 30)
              have pl : Pur wr (wq.alloc (.cells #[.int .i64 (tp.1 : Int), .int .i64 (tp.2 : Int)] 30)) := pq.alloc _
              have E2 := bk_cell (bk_alloc hB (.cells #[.int .i64 (tp.1 : Int), .int .i64 (tp.2 : Int)] 30)) 2 _ rfl
              clear hB BK hW3 p3
              go_wp2
              go_loopw [106] (fun k wx => ∃ (m : Nat) (q : Nat × Nat), m ≤ ta.length ∧ k = .int .i64 m ∧ Pur wr wx ∧ wx.heap[wq.heap.size]? = some (.cells #[.int .i64 (q.1 : Int), .int .i64 (q.2 : Int)] 30 (0, 0)) ∧ Hid (∀ a, ta[m]? = some a → behind a.at_ q)) (fun k _ => ta.length + 1 - (intOf k).toNat)
              case atStart => exact ⟨0, tp, by omega, rfl, pl, bl, Lib.hid at0⟩
              case round =>
                obtain ⟨i, q, hi, rfl, px, bx, HB⟩ := hrel
                by_cases hil : i < ta.length
                · have hil2 : (i : Int) < ta.length := by omega
                  have hac' : (ta.length : Int) ≤ a2 := by omega
                  have wi : IntKind.i64.wrap ((i : Int) + 1) = (i : Int) + 1 := IntWalk.i64_in _ (by omega)
                  obtain ⟨x, hx⟩ : ∃ x, ta[i]? = some x := ⟨ta[i], List.getElem?_eq_getElem hil⟩
                  obtain ⟨aa, ac, e7, -, HX⟩ := AW wr px
                  simp only [Value.slice.injEq] at e7
                  obtain ⟨rfl, -, rfl⟩ := e7
                  obtain ⟨gx, rfl, hgx, x0, x1, x2, x3⟩ := HX i x hx
                  have hbx := HB.out x hx
                  have HB' := Lib.hid (fun a (ha : ta[i + 1]? = some a) => AB i x a hx ha)
                  obtain ⟨y0, ym, hy⟩ : ∃ y0 ym, x.nm = y0 :: ym := by
                    cases hh : x.nm with
                    | nil => exact absurd hh (AN i x hx)
                    | cons y0 ym => exact ⟨y0, ym, rfl⟩
                  rw [hy] at x0
                  have by_ := bk_alloc bx (.cells #[.string ⟨(y0 :: ym).toArray⟩, .string ⟨x.val.toArray⟩, .int .i64 (x.at_.1 : Int), .int .i64 (x.at_.2 : Int)] 35)
                  have bn := bk_new wr (.cells #[.string ⟨(y0 :: ym).toArray⟩, .string ⟨x.val.toArray⟩, .int .i64 (x.at_.1 : Int), .int .i64 (x.at_.2 : Int)] 35)
                  have pz := px.alloc (.cells #[.string ⟨(y0 :: ym).toArray⟩, .string ⟨x.val.toArray⟩, .int .i64 (x.at_.1 : Int), .int .i64 (x.at_.2 : Int)] 35)
                  have z0 := bk_cell by_ 0 _ rfl
                  have z1 := bk_cell by_ 1 _ rfl
                  have hqlt : wq.heap.size < wr.heap.size := bk_lt bx
                  have hwlt := pq.size
                  clear HX hx HB bx
                  go_wp2_with fail
                  refine (behind_any hbx _).mono ?_
                  rintro e w9 ⟨rfl, p9⟩
                  have c9 := bk_pur bn p9
                  have l9 := bk_pur by_ p9
                  have q2 := bk_cell c9 2 _ rfl
                  have q3 := bk_cell c9 3 _ rfl
                  have q0 := bk_cell c9 0 _ rfl
                  have r0 := bk_cell l9 0 _ rfl
                  have r1 := bk_cell l9 1 _ rfl
                  have f0 := bk_free l9 0
                  have f1 := bk_free l9 1
                  have p10 := ((pz.trans p9).setCell (p := ⟨wq.heap.size, 0, none⟩) hwlt (.int .i64 (x.at_.1 : Int))).setCell (p := ⟨wq.heap.size, 1, none⟩) hwlt (.int .i64 (x.at_.2 : Int))
                  have l10 := bk_set (bk_set l9 0 (.int .i64 (x.at_.1 : Int))) 1 (.int .i64 (x.at_.2 : Int))
                  clear bn by_ c9 l9 z0 z1
                  go_wp2
                  go_roundw
                  case rel => exact ⟨i + 1, x.at_, by omega, by go_num, p10, by simpa using l10, HB'⟩
                  case measure => simp [intOf] <;> omega
                · obtain rfl : i = ta.length := by omega
                  go_wp2
                  go_roundw
                  case rel => exact ⟨n + 1, by omega, by go_num, hpr.trans px⟩
                  case measure => simp [intOf] <;> omega
            · have hz : 0 < n := by omega
              have hz2 : ¬ n = 0 := by omega
              have hms := (List.getElem?_eq_some_iff.1 hs).1
              have hms2 : (m : Int) < ts.length := by omega
              have ws : IntKind.i64.wrap ((n : Int) - 1) = (m : Int) := by rw [IntWalk.i64_in _ (by omega)]; omega
              simp only [Int.cast_ofNat_Int, List.length_nil] at k0 k1 k2 k3 k4 k5 k6 AW at0 AN AB ham hac hW3 BK hbd hkk
              have C0 : ∀ x : PW W3, x.to.cell? ⟨wr.heap.size, 0, none⟩ = _ := fun x => bk_cell (bk_pur BK x.pur) 0 _ rfl
              have C4 : ∀ x : PW W3, x.to.cell? ⟨wr.heap.size, 4, none⟩ = _ := fun x => bk_cell (bk_pur BK x.pur) 4 _ rfl
              have C5 : ∀ x : PW W3, x.to.cell? ⟨wr.heap.size, 5, none⟩ = _ := fun x => bk_cell (bk_pur BK x.pur) 5 _ rfl
              have P0 : ∀ x : PW W3, x.to.cell? ⟨g, m * 7, none⟩ = _ := fun x => (PC x.to (p3.trans x.pur)).1
              have P4 : ∀ x : PW W3, x.to.cell? ⟨g, m * 7 + 4, none⟩ = _ := fun x => (PC x.to (p3.trans x.pur)).2.1
              have P5 : ∀ x : PW W3, x.to.cell? ⟨g, m * 7 + 5, none⟩ = _ := fun x => (PC x.to (p3.trans x.pur)).2.2
              have BH := fun x : PW W3 => behind_any hbd x.to
              clear hbd hkk PC hs hnm
              go_wp2
              rw [← hW3]
              refine wp_region_pur (by kernel_rfl) (by kernel_rfl) ?_
              repeat (go_big_quiet_step (((go_at_call 9; exact quiet_pur (BH _)))))
              refine wpQuiet_nil ?_
              intro wq hq
              clear C0 C4 C5 P0 P4 P5 BH
              have hB : wq.heap[wr.heap.size]? = _ := bk_pur BK hq
              have D0 := bk_cell hB 0 _ rfl
              have D1 := bk_cell hB 1 _ rfl
              have D2 := bk_cell hB 2 _ rfl
              have D3 := bk_cell hB 3 _ rfl
              have D4 := bk_cell hB 4 _ rfl
              have D5 := bk_cell hB 5 _ rfl
              have D6 := bk_cell hB 6 _ rfl
              have pq := p3.trans hq
              have bl := bk_new wq (.cells #[.int .i64 (tp.1 : Int), .int .i64 (tp.2 : Int)] 30)
              have pl : Pur wr (wq.alloc (.cells #[.int .i64 (tp.1 : Int), .int .i64 (tp.2 : Int)] 30)) := pq.alloc _
              have E2 := bk_cell (bk_alloc hB (.cells #[.int .i64 (tp.1 : Int), .int .i64 (tp.2 : Int)] 30)) 2 _ rfl
              clear hB BK hW3 p3
              go_wp2
              go_loopw [106] (fun k wx => ∃ (m : Nat) (q : Nat × Nat), m ≤ ta.length ∧ k = .int .i64 m ∧ Pur wr wx ∧ wx.heap[wq.heap.size]? = some (.cells #[.int .i64 (q.1 : Int), .int .i64 (q.2 : Int)] 30 (0, 0)) ∧ Hid (∀ a, ta[m]? = some a → behind a.at_ q)) (fun k _ => ta.length + 1 - (intOf k).toNat)
              case atStart => exact ⟨0, tp, by omega, rfl, pl, bl, Lib.hid at0⟩
              case round =>
                obtain ⟨i, q, hi, rfl, px, bx, HB⟩ := hrel
                by_cases hil : i < ta.length
                · have hil2 : (i : Int) < ta.length := by omega
                  have hac' : (ta.length : Int) ≤ a2 := by omega
                  have wi : IntKind.i64.wrap ((i : Int) + 1) = (i : Int) + 1 := IntWalk.i64_in _ (by omega)
                  obtain ⟨x, hx⟩ : ∃ x, ta[i]? = some x := ⟨ta[i], List.getElem?_eq_getElem hil⟩
                  obtain ⟨aa, ac, e7, -, HX⟩ := AW wr px
                  simp only [Value.slice.injEq] at e7
                  obtain ⟨rfl, -, rfl⟩ := e7
                  obtain ⟨gx, rfl, hgx, x0, x1, x2, x3⟩ := HX i x hx
                  have hbx := HB.out x hx
                  have HB' := Lib.hid (fun a (ha : ta[i + 1]? = some a) => AB i x a hx ha)
                  obtain ⟨y0, ym, hy⟩ : ∃ y0 ym, x.nm = y0 :: ym := by
                    cases hh : x.nm with
                    | nil => exact absurd hh (AN i x hx)
                    | cons y0 ym => exact ⟨y0, ym, rfl⟩
                  rw [hy] at x0
                  have by_ := bk_alloc bx (.cells #[.string ⟨(y0 :: ym).toArray⟩, .string ⟨x.val.toArray⟩, .int .i64 (x.at_.1 : Int), .int .i64 (x.at_.2 : Int)] 35)
                  have bn := bk_new wr (.cells #[.string ⟨(y0 :: ym).toArray⟩, .string ⟨x.val.toArray⟩, .int .i64 (x.at_.1 : Int), .int .i64 (x.at_.2 : Int)] 35)
                  have pz := px.alloc (.cells #[.string ⟨(y0 :: ym).toArray⟩, .string ⟨x.val.toArray⟩, .int .i64 (x.at_.1 : Int), .int .i64 (x.at_.2 : Int)] 35)
                  have z0 := bk_cell by_ 0 _ rfl
                  have z1 := bk_cell by_ 1 _ rfl
                  have hqlt : wq.heap.size < wr.heap.size := bk_lt bx
                  have hwlt := pq.size
                  clear HX hx HB bx
                  go_wp2_with fail
                  refine (behind_any hbx _).mono ?_
                  rintro e w9 ⟨rfl, p9⟩
                  have c9 := bk_pur bn p9
                  have l9 := bk_pur by_ p9
                  have q2 := bk_cell c9 2 _ rfl
                  have q3 := bk_cell c9 3 _ rfl
                  have q0 := bk_cell c9 0 _ rfl
                  have r0 := bk_cell l9 0 _ rfl
                  have r1 := bk_cell l9 1 _ rfl
                  have f0 := bk_free l9 0
                  have f1 := bk_free l9 1
                  have p10 := ((pz.trans p9).setCell (p := ⟨wq.heap.size, 0, none⟩) hwlt (.int .i64 (x.at_.1 : Int))).setCell (p := ⟨wq.heap.size, 1, none⟩) hwlt (.int .i64 (x.at_.2 : Int))
                  have l10 := bk_set (bk_set l9 0 (.int .i64 (x.at_.1 : Int))) 1 (.int .i64 (x.at_.2 : Int))
                  clear bn by_ c9 l9 z0 z1
                  go_wp2
                  go_roundw
                  case rel => exact ⟨i + 1, x.at_, by omega, by go_num, p10, by simpa using l10, HB'⟩
                  case measure => simp [intOf] <;> omega
                · obtain rfl : i = ta.length := by omega
                  go_wp2
                  go_roundw
                  case rel => exact ⟨n + 1, by omega, by go_num, hpr.trans px⟩
                  case measure => simp [intOf] <;> omega
          · rcases PV with h0 | ⟨m, s, hnm, hs, hbd, hkk, PC⟩
            · have hz : ¬ 0 < n := by omega
              clear h0
              simp only [Int.cast_ofNat_Int, List.length_nil] at k0 k1 k2 k3 k4 k5 k6 AW at0 AN AB ham hac hW3 BK
              have C0 : ∀ x : PW W3, x.to.cell? ⟨wr.heap.size, 0, none⟩ = _ := fun x => bk_cell (bk_pur BK x.pur) 0 _ rfl
              go_wp2
              rw [← hW3]
              refine wp_region_pur (by kernel_rfl) (by kernel_rfl) ?_
              repeat (go_big_quiet_step (fail))
              refine wpQuiet_nil ?_
              intro wq hq
              have hB : wq.heap[wr.heap.size]? = _ := bk_pur BK hq
              have D0 := bk_cell hB 0 _ rfl
              have D1 := bk_cell hB 1 _ rfl
              have D2 := bk_cell hB 2 _ rfl
              have D3 := bk_cell hB 3 _ rfl
              have D4 := bk_cell hB 4 _ rfl
              have D5 := bk_cell hB 5 _ rfl
              have D6 := bk_cell hB 6 _ rfl
              have pq := p3.trans hq
              have bl := bk_new wq (.cells #[.int .i64 (tp.1 : Int), .int .i64 (tp.2 : Int)] 30)
              have pl : Pur wr (wq.alloc (.cells #[.int .i64 (tp.1 : Int), .int .i64 (tp.2 : Int)] 30)) := pq.alloc _
              have E2 := bk_cell (bk_alloc hB (.cells #[.int .i64 (tp.1 : Int), .int .i64 (tp.2 : Int)] 30)) 2 _ rfl
              clear hB BK hW3 p3
              go_wp2
              go_loopw [106] (fun k wx => ∃ (m : Nat) (q : Nat × Nat), m ≤ ta.length ∧ k = .int .i64 m ∧ Pur wr wx ∧ wx.heap[wq.heap.size]? = some (.cells #[.int .i64 (q.1 : Int), .int .i64 (q.2 : Int)] 30 (0, 0)) ∧ Hid (∀ a, ta[m]? = some a → behind a.at_ q)) (fun k _ => ta.length + 1 - (intOf k).toNat)
              case atStart => exact ⟨0, tp, by omega, rfl, pl, bl, Lib.hid at0⟩
              case round =>
                obtain ⟨i, q, hi, rfl, px, bx, HB⟩ := hrel
                by_cases hil : i < ta.length
                · exact absurd (Nat.lt_of_le_of_lt (Nat.zero_le _) hil) hta
                · obtain rfl : i = ta.length := by omega
                  go_wp2
                  go_roundw
                  case rel => exact ⟨n + 1, by omega, by go_num, hpr.trans px⟩
                  case measure => simp [intOf] <;> omega
            · have hz : 0 < n := by omega
              have hz2 : ¬ n = 0 := by omega
              have hms := (List.getElem?_eq_some_iff.1 hs).1
              have hms2 : (m : Int) < ts.length := by omega
              have ws : IntKind.i64.wrap ((n : Int) - 1) = (m : Int) := by rw [IntWalk.i64_in _ (by omega)]; omega
              simp only [Int.cast_ofNat_Int, List.length_nil] at k0 k1 k2 k3 k4 k5 k6 AW at0 AN AB ham hac hW3 BK hbd hkk
              have C0 : ∀ x : PW W3, x.to.cell? ⟨wr.heap.size, 0, none⟩ = _ := fun x => bk_cell (bk_pur BK x.pur) 0 _ rfl
              have C4 : ∀ x : PW W3, x.to.cell? ⟨wr.heap.size, 4, none⟩ = _ := fun x => bk_cell (bk_pur BK x.pur) 4 _ rfl
              have C5 : ∀ x : PW W3, x.to.cell? ⟨wr.heap.size, 5, none⟩ = _ := fun x => bk_cell (bk_pur BK x.pur) 5 _ rfl
              have P0 : ∀ x : PW W3, x.to.cell? ⟨g, m * 7, none⟩ = _ := fun x => (PC x.to (p3.trans x.pur)).1
              have P4 : ∀ x : PW W3, x.to.cell? ⟨g, m * 7 + 4, none⟩ = _ := fun x => (PC x.to (p3.trans x.pur)).2.1
              have P5 : ∀ x : PW W3, x.to.cell? ⟨g, m * 7 + 5, none⟩ = _ := fun x => (PC x.to (p3.trans x.pur)).2.2
              have BH := fun x : PW W3 => behind_any hbd x.to
              clear hbd hkk PC hs hnm
              go_wp2
              rw [← hW3]
              refine wp_region_pur (by kernel_rfl) (by kernel_rfl) ?_
              repeat (go_big_quiet_step (((go_at_call 9; exact quiet_pur (BH _)))))
              refine wpQuiet_nil ?_
              intro wq hq
              clear C0 C4 C5 P0 P4 P5 BH
              have hB : wq.heap[wr.heap.size]? = _ := bk_pur BK hq
              have D0 := bk_cell hB 0 _ rfl
              have D1 := bk_cell hB 1 _ rfl
              have D2 := bk_cell hB 2 _ rfl
              have D3 := bk_cell hB 3 _ rfl
              have D4 := bk_cell hB 4 _ rfl
              have D5 := bk_cell hB 5 _ rfl
              have D6 := bk_cell hB 6 _ rfl
              have pq := p3.trans hq
              have bl := bk_new wq (.cells #[.int .i64 (tp.1 : Int), .int .i64 (tp.2 : Int)] 30)
              have pl : Pur wr (wq.alloc (.cells #[.int .i64 (tp.1 : Int), .int .i64 (tp.2 : Int)] 30)) := pq.alloc _
              have E2 := bk_cell (bk_alloc hB (.cells #[.int .i64 (tp.1 : Int), .int .i64 (tp.2 : Int)] 30)) 2 _ rfl
              clear hB BK hW3 p3
              go_wp2
              go_loopw [106] (fun k wx => ∃ (m : Nat) (q : Nat × Nat), m ≤ ta.length ∧ k = .int .i64 m ∧ Pur wr wx ∧ wx.heap[wq.heap.size]? = some (.cells #[.int .i64 (q.1 : Int), .int .i64 (q.2 : Int)] 30 (0, 0)) ∧ Hid (∀ a, ta[m]? = some a → behind a.at_ q)) (fun k _ => ta.length + 1 - (intOf k).toNat)
              case atStart => exact ⟨0, tp, by omega, rfl, pl, bl, Lib.hid at0⟩
              case round =>
                obtain ⟨i, q, hi, rfl, px, bx, HB⟩ := hrel
                by_cases hil : i < ta.length
                · exact absurd (Nat.lt_of_le_of_lt (Nat.zero_le _) hil) hta
                · obtain rfl : i = ta.length := by omega
                  go_wp2
                  go_roundw
                  case rel => exact ⟨n + 1, by omega, by go_num, hpr.trans px⟩
                  case measure => simp [intOf] <;> omega
          · rcases PV with h0 | ⟨m, s, hnm, hs, hbd, hkk, PC⟩
            · have hz : ¬ 0 < n := by omega
              clear h0
              simp only [Int.cast_ofNat_Int, List.length_nil] at k0 k1 k2 k3 k4 k5 k6 AW at0 AN AB ham hac hW3 BK
              have C0 : ∀ x : PW W3, x.to.cell? ⟨wr.heap.size, 0, none⟩ = _ := fun x => bk_cell (bk_pur BK x.pur) 0 _ rfl
              go_wp2
              rw [← hW3]
              refine wp_region_pur (by kernel_rfl) (by kernel_rfl) ?_
              repeat (go_big_quiet_step (fail))
              refine wpQuiet_nil ?_
              intro wq hq
              have hB : wq.heap[wr.heap.size]? = _ := bk_pur BK hq
              have D0 := bk_cell hB 0 _ rfl
              have D1 := bk_cell hB 1 _ rfl
              have D2 := bk_cell hB 2 _ rfl
              have D3 := bk_cell hB 3 _ rfl
              have D4 := bk_cell hB 4 _ rfl
              have D5 := bk_cell hB 5 _ rfl
              have D6 := bk_cell hB 6 _ rfl
              have pq := p3.trans hq
              have bl := bk_new wq (.cells #[.int .i64 (tp.1 : Int), .int .i64 (tp.2 : Int)] 30)
              have pl : Pur wr (wq.alloc (.cells #[.int .i64 (tp.1 : Int), .int .i64 (tp.2 : Int)] 30)) := pq.alloc _
              have E2 := bk_cell (bk_alloc hB (.cells #[.int .i64 (tp.1 : Int), .int .i64 (tp.2 : Int)] 30)) 2 _ rfl
              clear hB BK hW3 p3
              go_wp2
              go_loopw [106] (fun k wx => ∃ (m : Nat) (q : Nat × Nat), m ≤ ta.length ∧ k = .int .i64 m ∧ Pur wr wx ∧ wx.heap[wq.heap.size]? = some (.cells #[.int .i64 (q.1 : Int), .int .i64 (q.2 : Int)] 30 (0, 0)) ∧ Hid (∀ a, ta[m]? = some a → behind a.at_ q)) (fun k _ => ta.length + 1 - (intOf k).toNat)
              case atStart => exact ⟨0, tp, by omega, rfl, pl, bl, Lib.hid at0⟩
              case round =>
                obtain ⟨i, q, hi, rfl, px, bx, HB⟩ := hrel
                by_cases hil : i < ta.length
                · exact absurd (Nat.lt_of_le_of_lt (Nat.zero_le _) hil) hta
                · obtain rfl : i = ta.length := by omega
                  go_wp2
                  go_roundw
                  case rel => exact ⟨n + 1, by omega, by go_num, hpr.trans px⟩
                  case measure => simp [intOf] <;> omega
            · have hz : 0 < n := by omega
              have hz2 : ¬ n = 0 := by omega
              have hms := (List.getElem?_eq_some_iff.1 hs).1
              have hms2 : (m : Int) < ts.length := by omega
              have ws : IntKind.i64.wrap ((n : Int) - 1) = (m : Int) := by rw [IntWalk.i64_in _ (by omega)]; omega
              simp only [Int.cast_ofNat_Int, List.length_nil] at k0 k1 k2 k3 k4 k5 k6 AW at0 AN AB ham hac hW3 BK hbd hkk
              have ds : ((s.kind : Int) == 3) = false := by rw [beq_eq_false_iff_ne]; intro e; exact hkk ⟨by omega, trivial⟩
              have C0 : ∀ x : PW W3, x.to.cell? ⟨wr.heap.size, 0, none⟩ = _ := fun x => bk_cell (bk_pur BK x.pur) 0 _ rfl
              have C4 : ∀ x : PW W3, x.to.cell? ⟨wr.heap.size, 4, none⟩ = _ := fun x => bk_cell (bk_pur BK x.pur) 4 _ rfl
              have C5 : ∀ x : PW W3, x.to.cell? ⟨wr.heap.size, 5, none⟩ = _ := fun x => bk_cell (bk_pur BK x.pur) 5 _ rfl
              have P0 : ∀ x : PW W3, x.to.cell? ⟨g, m * 7, none⟩ = _ := fun x => (PC x.to (p3.trans x.pur)).1
              have P4 : ∀ x : PW W3, x.to.cell? ⟨g, m * 7 + 4, none⟩ = _ := fun x => (PC x.to (p3.trans x.pur)).2.1
              have P5 : ∀ x : PW W3, x.to.cell? ⟨g, m * 7 + 5, none⟩ = _ := fun x => (PC x.to (p3.trans x.pur)).2.2
              have BH := fun x : PW W3 => behind_any hbd x.to
              clear hbd hkk PC hs hnm
              go_wp2
              rw [← hW3]
              refine wp_region_pur (by kernel_rfl) (by kernel_rfl) ?_
              repeat (go_big_quiet_step (((go_at_call 9; exact quiet_pur (BH _)))))
              refine wpQuiet_nil ?_
              intro wq hq
              clear C0 C4 C5 P0 P4 P5 BH
              have hB : wq.heap[wr.heap.size]? = _ := bk_pur BK hq
              have D0 := bk_cell hB 0 _ rfl
              have D1 := bk_cell hB 1 _ rfl
              have D2 := bk_cell hB 2 _ rfl
              have D3 := bk_cell hB 3 _ rfl
              have D4 := bk_cell hB 4 _ rfl
              have D5 := bk_cell hB 5 _ rfl
              have D6 := bk_cell hB 6 _ rfl
              have pq := p3.trans hq
              have bl := bk_new wq (.cells #[.int .i64 (tp.1 : Int), .int .i64 (tp.2 : Int)] 30)
              have pl : Pur wr (wq.alloc (.cells #[.int .i64 (tp.1 : Int), .int .i64 (tp.2 : Int)] 30)) := pq.alloc _
              have E2 := bk_cell (bk_alloc hB (.cells #[.int .i64 (tp.1 : Int), .int .i64 (tp.2 : Int)] 30)) 2 _ rfl
              clear hB BK hW3 p3
              go_wp2
              go_loopw [106] (fun k wx => ∃ (m : Nat) (q : Nat × Nat), m ≤ ta.length ∧ k = .int .i64 m ∧ Pur wr wx ∧ wx.heap[wq.heap.size]? = some (.cells #[.int .i64 (q.1 : Int), .int .i64 (q.2 : Int)] 30 (0, 0)) ∧ Hid (∀ a, ta[m]? = some a → behind a.at_ q)) (fun k _ => ta.length + 1 - (intOf k).toNat)
              case atStart => exact ⟨0, tp, by omega, rfl, pl, bl, Lib.hid at0⟩
              case round =>
                obtain ⟨i, q, hi, rfl, px, bx, HB⟩ := hrel
                by_cases hil : i < ta.length
                · exact absurd (Nat.lt_of_le_of_lt (Nat.zero_le _) hil) hta
                · obtain rfl : i = ta.length := by omega
                  go_wp2
                  go_roundw
                  case rel => exact ⟨n + 1, by omega, by go_num, hpr.trans px⟩
                  case measure => simp [intOf] <;> omega
        · obtain rfl : n = ts.length := by omega
          go_wp2
          go_ret
          exact ⟨rfl, hp2.trans hpr⟩
end Tk
end Go.Proofs.YtaknfofppknloaaDoor
