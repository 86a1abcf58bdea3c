/- Layer 3: Parse. -/
import Derived.Test.YtigfcchblfnnbaaGreatDoorTe16
import Derived.Test.YtigfcchblfnnbaaGreatDoorTeR
import Derived.Test.YtigfcchblfnnbaaGreatDoorTkH
namespace Go.Proofs.YtigfcchblfnnbaaGreatDoor
open Go Go.RowKit
set_option linter.all false
namespace Te
open Tk (AttrV TokV mem_own ARead TRead TW Told tokens_told)
theorem tokens_at (ts : List TokV) (i : Nat) (t : TokV) (h : ts[i]? = some t) (b : Bd) : tokensGo (ts.drop i) b = match token b t with | .error e => .error e | .ok b' => tokensGo (ts.drop (i + 1)) b' := by
  obtain ⟨hi, e⟩ := List.getElem?_eq_some_iff.1 h
  rw [List.drop_eq_getElem_cons hi, e, tokensGo]
  rcases token b t <;> rfl
structure Lim (b : Bd) : Prop where
  s : b.stack.length ≤ 32
  n : b.nodes.length ≤ 2048
theorem start_lim {b b' : Bd} {t : TokV} (h : start b t = .ok b') (hb : Lim b) : Lim b' := by
  unfold start at h
  split at h
  · cases h
  split at h
  · cases h
  split at h
  · cases h
  split at h
  · cases h
  cases h
  refine ⟨?_, by simp; omega⟩
  show (if t.empty then _ else _ : List Opn).length ≤ 32
  split
  · exact hb.s
  · simp; omega
theorem token_lim {b b' : Bd} {t : TokV} (h : token b t = .ok b') (hb : Lim b) : Lim b' := by
  unfold token at h
  split at h
  · exact start_lim h hb
  split at h
  · split at h
    · split at h
      · cases h; exact ⟨by have := hb.s; simp; omega, hb.n⟩
      · cases h
    · cases h
  split at h
  · split at h
    · cases h; exact hb
    · cases h
  split at h
  · cases h
  cases h
  exact ⟨hb.s, by simp; omega⟩
/-- what Parse has handed back says this -/
def Parsed (B : Nat) (w' : World) (r : Except (Ps × Nat) (List NodeV)) (e : Ending) : Prop := match r with
  | .ok ns => ∃ v evs, e = .returned (.tuple #[.agg #[v], .nilIface]) ∧ NodeRow w' B v evs ns
  | .error q => ∃ fv, e = .returned (.tuple #[.agg #[.slice none 0 0], fv]) ∧ Fa 0 w' fv q
theorem At.init {w : World} {g B : Nat} (h : w.heap[g]? = some (.cells #[.slice none 0 0, .slice none 0 0, .bool false] 57 (0, 0))) (hB : B ≤ g) : At w B ⟨g, .slice none 0 0, [], .slice none 0 0, []⟩ ⟨[], [], false⟩ :=
  ⟨h, ⟨World.ownsRow_nil _ _ _ _, rfl, fun j u n hu => by simp at hu, by simp [Value.ownBlock], by simp [Value.ownBlock]⟩, ⟨World.ownsRow_nil _ _ _ _, rfl, fun j u n hu => by simp at hu⟩, hB, by simp [Pl.all, Pl.rows, Value.ownBlock]⟩
/-- a fault behind a store into a block of another type -/
theorem Fa.set {B : Nat} {w : World} {v : Value} {q : Ps × Nat} (h : Fa B w v q) {rb : Nat} {C : Array Value} {T : TypeId} (hr : w.heap[rb]? = some (.cells C T (0, 0))) (hT : T ≠ 71) (i : Nat) (x : Value) : Fa B (w.setCell ⟨rb, i, none⟩ x) v q := by
  obtain ⟨b, h1, h2, h3⟩ := h
  refine ⟨b, h1, h2, bk_other h3 (a := ⟨rb, i, none⟩) (fun e => ?_) x⟩
  have e : b = rb := e
  rw [e, hr] at h3
  simp at h3
  exact hT h3.2
theorem cell_other {w : World} {p q : Addr} {v x : Value} (h : w.cell? q = some v) (hn : p.block ≠ q.block) : (w.setCell p x).cell? q = some v := by
  unfold World.cell? at *
  rw [RowKit.Below.heap_setCell _ _ _ _ hn.symm]
  exact h
set_option maxRecDepth 100000 in
set_option maxHeartbeats 16000000 in
theorem parse_any (l : Bs) (w : World) (hW : TW w) (hX : XW w) : Calls Tryz.prog 7 #[.string ⟨l.toArray⟩] w fun e w' => Pur w w' ∧ Parsed w.heap.size w' (parse l) e := by
  obtain ⟨w0, hw0⟩ : ∃ w0, w0 = w.alloc (.cells #[.slice none 0 0] 29) := ⟨_, rfl⟩
  obtain ⟨rb, hrb⟩ : ∃ rb, w.heap.size = rb := ⟨_, rfl⟩
  have hb0 : w0.heap[rb]? = some (.cells #[.slice none 0 0] 29 (0, 0)) := by rw [hw0, ← hrb]; exact bk_new w _
  have hp0 : Pur w w0 := by rw [hw0]; exact (Pur.refl w).alloc _
  have hlt0 : rb < w0.heap.size := bk_lt hb0
  have T0 := tokens_told l w0 (hW.pur hp0)
  have FA := fun p n w => fault_any p n w
  rcases hr : Tk.whole l with ⟨pos, n⟩ | ts
  · have hE : parse l = .error (pos, n) := by unfold parse; rw [hr]
    rw [hE]
    rw [hr] at T0
    clear hE hr
    go_enter Tryz.func7, Tryz.ntmps7
    go_upto_region 1 with (fail)
    rw [← hw0]
    clear hw0
    go_wp2_with fail
    refine T0.mono ?_
    rintro e w1 ⟨v, ev, rfl, p1, rfl, b, rfl, hf⟩
    have hb1 := bk_pur hb0 p1
    have f1 := bk_free hb1 0
    have hfa : Fa 0 w1 (.iface 67 (.pointer (some ⟨b, 0, none⟩))) (pos, n) := ⟨b, Nat.zero_le _, rfl, hf⟩
    have hfa2 := hfa.set hb1 (by decide) 0 (.slice none 0 0)
    have k1 := bk_cell (bk_set hb1 0 (.slice none 0 0)) 0 _ rfl
    have k0 := bk_cell hb1 0 _ rfl
    clear T0 hf hfa
    go_wp2
    refine bodyPost_ret (v := .tuple #[.agg #[.slice none 0 0], .iface 67 (.pointer (some ⟨b, 0, none⟩))]) (by simp [results, Tryz.results7, go_sem, k1]) rfl ?_
    exact ⟨(hp0.trans p1).setCell (by show w.heap.size ≤ rb; omega) _, _, rfl, hfa2⟩
  · have hL := whole_lens hr
    have hE : parse l = build ts := by unfold parse; rw [hr]
    rw [hE]
    rw [hr] at T0
    clear hE hr
    obtain ⟨R, hR⟩ : ∃ R, build ts = R := ⟨_, rfl⟩
    rw [hR]
    have HR := Lib.hid hR
    clear hR
    go_enter Tryz.func7, Tryz.ntmps7
    go_upto_region 1 with (fail)
    rw [← hw0]
    clear hw0
    go_wp2_with fail
    refine T0.mono ?_
    rintro e w1 ⟨v, ev, rfl, p1, rfl, htr⟩
    obtain ⟨va, vc, rfl, ⟨hvc, hlm⟩, hT⟩ := htr
    have hb1 := bk_pur hb0 p1
    have P1 := hp0.trans p1
    obtain ⟨w2, hw2⟩ : ∃ w2, w2 = w1.alloc (.cells #[.slice none 0 0, .slice none 0 0, .bool false] 57) := ⟨_, rfl⟩
    obtain ⟨g, hg⟩ : ∃ g, w1.heap.size = g := ⟨_, rfl⟩
    have p2 : Pur w1 w2 := by rw [hw2]; exact (Pur.refl w1).alloc _
    have hrg : rb < g := by rw [← hg]; exact bk_lt hb1
    have hI : At w2 rb ⟨g, .slice none 0 0, [], .slice none 0 0, []⟩ ⟨[], [], false⟩ := At.init (by rw [hw2, ← hg]; exact bk_new w1 _) (by omega)
    have hg2 : g < w2.heap.size := bk_lt hI.own
    have HT : ∀ (i : Nat) t, ts[i]? = some t → ∃ q av, va = some ⟨q, 0, none⟩ ∧ q < w1.heap.size ∧ ∀ W, Pur w1 W → W.cell? ⟨q, i * 7, none⟩ = some (.int .i64 (t.kind : Int)) ∧ W.cell? ⟨q, i * 7 + 1, none⟩ = some (.string ⟨t.nm.toArray⟩) ∧
        W.cell? ⟨q, i * 7 + 2, none⟩ = some av ∧ W.cell? ⟨q, i * 7 + 3, none⟩ = some (.string ⟨t.text.toArray⟩) ∧ W.cell? ⟨q, i * 7 + 4, none⟩ = some (.int .i64 (t.at_.1 : Int)) ∧ W.cell? ⟨q, i * 7 + 5, none⟩ = some (.int .i64 (t.at_.2 : Int)) ∧
        W.cell? ⟨q, i * 7 + 6, none⟩ = some (.bool t.empty) ∧ ARead W av t.attrs := by
      intro i t ht
      obtain ⟨q, av, e, hq, k0, k1, k2, k3, k4, k5, k6, ha⟩ := hT i t ht
      exact ⟨q, av, e, hq, fun W hp => ⟨(hp.cell hq).trans k0, (hp.cell hq).trans k1, (hp.cell hq).trans k2, (hp.cell hq).trans k3, (hp.cell hq).trans k4, (hp.cell hq).trans k5, (hp.cell hq).trans k6, ha.pur hp⟩⟩
    clear T0 hT hb0
    go_upto_region 5 with (fail)
    rw [← hw2]
    clear hw2
    have HI := Lib.hid hI
    go_wp2
    go_loopw [23] (fun k wx => ∃ (i : Nat) (b : Bd) (p : Pl), i ≤ ts.length ∧ k = .int .i64 i ∧ p.g = g ∧ At wx rb p b ∧ Step ⟨g, .slice none 0 0, [], .slice none 0 0, []⟩ w2 p wx ∧ Lim b ∧ Hid (tokensGo ts ⟨[], [], false⟩ = tokensGo (ts.drop i) b)) (fun k _ => ts.length + 1 - (intOf k).toNat)
    case atStart => exact ⟨0, _, _, by omega, rfl, rfl, hI, Step.refl _ _, ⟨Nat.zero_le _, Nat.zero_le _⟩, Lib.hid (by simp)⟩
    case round =>
      clear hI
      obtain ⟨i, b, p, hi, rfl, hpg, hAt, hSt, hLim, H⟩ := hrel
      have P1r : Pur w1 wr := pur_chgS p2 hSt.chg (fun x hx => by
        have : x = g := by simpa [Pl.all, Pl.rows, Value.ownBlock] using hx
        omega)
      have Pr : Pur w wr := P1.trans P1r
      have hszr := P1r.size
      have hbr := bk_pur hb1 P1r
      have hne : ∀ x ∈ p.all, x ≠ rb := fun x hx e => by
        rcases hSt.new x hx with h | h
        · have : x = g := by simpa [Pl.all, Pl.rows, Value.ownBlock] using h
          omega
        · omega
      have kr := bk_cell hbr 0 _ rfl
      have fr := bk_free hbr 0
      have kr2 := fun x => bk_cell (bk_set hbr 0 x) 0 x rfl
      by_cases hlt : i < ts.length
      · obtain ⟨t, ht⟩ : ∃ t, ts[i]? = some t := ⟨_, List.getElem?_eq_getElem hlt⟩
        have hLt := hL t (List.mem_of_getElem? ht)
        obtain ⟨q, av, rfl, hq, HC⟩ := HT i t ht
        obtain ⟨k0, k1, k2, k3, k4, k5, k6, hA⟩ := HC wr P1r
        obtain ⟨aa, ac, rfl, -⟩ := id hA
        have hlt' : (i : Int) < ts.length := by omega
        have HS := Lib.hid (tokens_at ts i t ht b)
        obtain ⟨w3, hw3⟩ : ∃ w3, w3 = wr.alloc (.cells #[.int .i64 (t.kind : Int), .string ⟨t.nm.toArray⟩, .slice aa t.attrs.length ac, .string ⟨t.text.toArray⟩, .int .i64 (t.at_.1 : Int), .int .i64 (t.at_.2 : Int), .bool t.empty] 60) := ⟨_, rfl⟩
        have hb3 : w3.heap[wr.heap.size]? = some (.cells #[.int .i64 (t.kind : Int), .string ⟨t.nm.toArray⟩, .slice aa t.attrs.length ac, .string ⟨t.text.toArray⟩, .int .i64 (t.at_.1 : Int), .int .i64 (t.at_.2 : Int), .bool t.empty] 60 (0, 0)) := by rw [hw3]; exact bk_new wr _
        have p3 : Pur wr w3 := by rw [hw3]; exact (Pur.refl wr).alloc _
        have hs := hLim.s
        have hn := hLim.n
        have TK := token_any (hAt.pur p3) (hX.pur (Pr.trans p3)) (by have := p3.size; omega) (by omega) (by omega) t _ hLt.nm hLt.an hLt.at_ (hA.pur p3) hLt.tx
        rw [hpg] at TK
        unfold tokV at TK
        obtain ⟨r, hr⟩ : ∃ r, token b t = r := ⟨_, rfl⟩
        rw [hr] at TK
        have HRr := Lib.hid hr
        have hb3r := bk_pur hbr p3
        obtain ⟨kd, nm, A, tx, ⟨tl, tc⟩, em⟩ := t
        dsimp only at *
        clear hr ht HC HT hA
        go_upto_region 8 with (fail)
        rw [← hw3]
        have y0 := bk_cell hb3 0 _ rfl
        have y1 := bk_cell hb3 1 _ rfl
        have y2 := bk_cell hb3 2 _ rfl
        have y3 := bk_cell hb3 3 _ rfl
        have y4 := bk_cell hb3 4 _ rfl
        have y5 := bk_cell hb3 5 _ rfl
        have y6 := bk_cell hb3 6 _ rfl
        clear hw3 k0 k1 k2 k3 k4 k5 k6 kr fr kr2
        rcases r with ⟨pos, n⟩ | b'
        · go_wp2_with fail
          refine TK.mono ?_
          rintro e w4 ⟨fv, rfl, hfa, hc4⟩
          have hb4 := bk_chg hb3r hc4 (fun e => hne _ e rfl)
          have f4 := bk_free hb4 0
          have k4 := bk_cell hb4 0 _ rfl
          have k4' := bk_cell (bk_set hb4 0 (.slice none 0 0)) 0 _ rfl
          have hfa2 := (hfa.mono (Nat.zero_le _)).set hb4 (by decide) 0 (.slice none 0 0)
          have P4 : Pur w w4 := pur_chgS (Pr.trans p3) hc4 (fun x hx => by have := hAt.low x hx; omega)
          obtain ⟨fb, hfb⟩ : ∃ fb, fv = .iface 67 (.pointer (some ⟨fb, 0, none⟩)) := by
            obtain ⟨b, -, e, -⟩ := hfa; exact ⟨b, e⟩
          subst hfb
          clear TK y0 y1 y2 y3 y4 y5 y6
          go_wp2
          have e1 : R = .error (pos, n) := by rw [← HR.out]; unfold build; rw [H.out, HS.out, HRr.out]
          refine bodyPost_ret (v := .tuple #[.agg #[.slice none 0 0], .iface 67 (.pointer (some ⟨fb, 0, none⟩))]) (by simp [results, Tryz.results7, go_sem, k4']) rfl ?_
          rw [e1]
          exact ⟨P4.setCell (by show w.heap.size ≤ rb; omega) _, _, rfl, hfa2⟩
        · go_wp2_with (go_at_call 18; refine TK.mono ?_; rintro e w4 ⟨rfl, p', hAt4, hSt4⟩)
          go_roundw
          case rel => exact ⟨i + 1, b', p', by omega, by go_num, hSt4.g.trans hpg, hAt4, hSt.trans (((Step.refl p wr).pur p3).trans hSt4), token_lim HRr.out hLim, Lib.hid (by rw [H.out, HS.out, HRr.out])⟩
          case measure => simp [intOf]; omega
      · have hi2 : i = ts.length := by omega
        subst hi2
        have D1 := Lib.hid (show tokensGo ts ⟨[], [], false⟩ = .ok b by rw [H.out, List.drop_length, tokensGo])
        have hlt' : ¬ ((ts.length : Nat) : Int) < ts.length := by omega
        clear H hlt hi HT
        subst hpg
        have hs := hLim.s
        cases ho : b.stack.getLast? with
        | some o =>
          obtain ⟨sg, sc, k, u, hsv, hk, hkc, hcm, hsr0, hgl, j0, j1, j2, j3, j4⟩ := hAt.top ho
          have c1 := hAt.c1
          rw [hsv] at c1
          have hsgr : sg ≠ rb := hne sg (List.mem_cons_of_mem _ (List.mem_append_left _ (by rw [hsv]; simp [Value.ownBlock])))
          have n4 : (0 : Int) < (k : Int) + 1 := by omega
          have hkc' : ((k : Int) + 1) ≤ sc := by omega
          have nw : IntKind.i64.wrap (((k + 1 : Nat) : Int) - 1) = (k : Int) := by
            rw [show ((k + 1 : Nat) : Int) - 1 = k by omega]; exact IntWalk.i64_in _ (by omega)
          have e1 : R = .error (o.at_, 30) := by rw [← HR.out]; unfold build; rw [D1.out]; dsimp only; rw [ho]
          obtain ⟨on, om, os, ⟨ol, oc⟩⟩ := o
          dsimp only at *
          have e1' := e1
          clear e1
          have e1 := Lib.hid e1'
          clear e1'
          have nk : IntKind.i64.wrap (k : Int) = (k : Int) := IntWalk.i64_in _ (by omega)
          have nk3 : (k : Int) < (k : Int) + 1 := by omega
          have pd := (Pur.refl wr).drew
          have QT : ∀ w', Pur wr w' → w'.cell? ⟨p.g, 1, none⟩ = some (.slice (some ⟨sg, 0, none⟩) (k + 1) sc) ∧ w'.cell? ⟨sg, k * 5 + 3, none⟩ = some (.int .i64 (ol : Int)) ∧ w'.cell? ⟨sg, k * 5 + 4, none⟩ = some (.int .i64 (oc : Int)) := fun w' hp => ⟨cell_pur c1 hp, cell_pur j3 hp, cell_pur j4 hp⟩
          have QT0 := QT _ pd
          have QT := Lib.hid QT
          clear hAt j0 j1 j2 j3 j4 hsv ho hsr0 kr fr kr2
          go_upto_region 13 with (fail)
          clear c1
          refine wp_region_until (T := fun w' => w'.cell? ⟨p.g, 1, none⟩ = some (.slice (some ⟨sg, 0, none⟩) (k + 1) sc) ∧ w'.cell? ⟨sg, k * 5 + 3, none⟩ = some (.int .i64 (ol : Int)) ∧ w'.cell? ⟨sg, k * 5 + 4, none⟩ = some (.int .i64 (oc : Int))) 16 (by kernel_rfl) QT0 (fun hT => ?_)
          clear QT0
          refine wpAnyU_take (i := 0) (v := ?vu101) rfl (by kernel_rfl) (by kernel_rfl) (by kernel_rfl) (by kernel_rfl) (by kernel_rfl) (fun _ _ _ h => h) (Or.inl ⟨by rfl, ?hu101⟩) (by assumption) ?ru101
          case hu101 => (intro w9 hSw; (try dsimp only at hSw); go_simp; (try with_reducible rfl))
          simp only [Act.put, List.setIfInBounds_toArray, List.set_cons_zero, List.set_cons_succ]
          refine wpAnyU_take (i := 1) (v := ?vu102) rfl (by kernel_rfl) (by kernel_rfl) (by kernel_rfl) (by kernel_rfl) (by kernel_rfl) (fun _ _ _ h => h) (Or.inl ⟨by rfl, ?hu102⟩) (by assumption) ?ru102
          case hu102 => (intro w9 hSw; (try dsimp only at hSw); go_simp; (try with_reducible rfl))
          simp only [Act.put, List.setIfInBounds_toArray, List.set_cons_zero, List.set_cons_succ]
          refine wpAnyU_take (i := 2) (v := ?vu103) rfl (by kernel_rfl) (by kernel_rfl) (by kernel_rfl) (by kernel_rfl) (by kernel_rfl) (fun _ _ _ h => h) (Or.inl ⟨by rfl, ?hu103⟩) (by assumption) ?ru103
          case hu103 => (intro w9 hSw; (try dsimp only at hSw); go_simp; (try with_reducible rfl))
          simp only [Act.put, List.setIfInBounds_toArray, List.set_cons_zero, List.set_cons_succ]
          refine wpAnyU_take (i := 3) (v := ?vu104) rfl (by kernel_rfl) (by kernel_rfl) (by kernel_rfl) (by kernel_rfl) (by kernel_rfl) (fun _ _ _ h => h) (Or.inl ⟨by rfl, ?hu104⟩) (by assumption) ?ru104
          case hu104 => (intro w9 hSw; (try dsimp only at hSw); go_simp; (try with_reducible rfl))
          simp only [Act.put, List.setIfInBounds_toArray, List.set_cons_zero, List.set_cons_succ]
          refine wpAnyU_take (i := 4) (v := ?vu105) rfl (by kernel_rfl) (by kernel_rfl) (by kernel_rfl) (by kernel_rfl) (by kernel_rfl) (fun _ _ _ h => h) (Or.inl ⟨by rfl, ?hu105⟩) (by assumption) ?ru105
          case hu105 => (intro w9 hSw; (try dsimp only at hSw); go_simp; (try with_reducible rfl))
          simp only [Act.put, List.setIfInBounds_toArray, List.set_cons_zero, List.set_cons_succ]
          refine wpAnyU_take (i := 5) (v := ?vu106) rfl (by kernel_rfl) (by kernel_rfl) (by kernel_rfl) (by kernel_rfl) (by kernel_rfl) (fun _ _ _ h => h) (Or.inl ⟨by rfl, ?hu106⟩) (by assumption) ?ru106
          case hu106 => (intro w9 hSw; (try dsimp only at hSw); go_simp; (try with_reducible rfl))
          simp only [Act.put, List.setIfInBounds_toArray, List.set_cons_zero, List.set_cons_succ]
          refine wpAnyU_take (i := 6) (v := ?vu107) rfl (by kernel_rfl) (by kernel_rfl) (by kernel_rfl) (by kernel_rfl) (by kernel_rfl) (fun _ _ _ h => h) (Or.inl ⟨by rfl, ?hu107⟩) (by assumption) ?ru107
          case hu107 => (intro w9 hSw; (try dsimp only at hSw); go_simp; (try with_reducible rfl))
          simp only [Act.put, List.setIfInBounds_toArray, List.set_cons_zero, List.set_cons_succ]
          refine wpAnyU_take (i := 7) (v := ?vu108) rfl (by kernel_rfl) (by kernel_rfl) (by kernel_rfl) (by kernel_rfl) (by kernel_rfl) (fun _ _ _ h => h) (Or.inl ⟨by rfl, ?hu108⟩) (by assumption) ?ru108
          case hu108 => (intro w9 hSw; (try dsimp only at hSw); go_simp; (try with_reducible rfl))
          simp only [Act.put, List.setIfInBounds_toArray, List.set_cons_zero, List.set_cons_succ]
          refine wpAnyU_take (i := 8) (v := ?vu109) rfl (by kernel_rfl) (by kernel_rfl) (by kernel_rfl) (by kernel_rfl) (by kernel_rfl) (fun _ _ _ h => h) (Or.inl ⟨by rfl, ?hu109⟩) (by assumption) ?ru109
          case hu109 => (intro w9 hSw; (try dsimp only at hSw); go_simp; (try with_reducible rfl))
          simp only [Act.put, List.setIfInBounds_toArray, List.set_cons_zero, List.set_cons_succ]
          refine wpAnyU_take (i := 9) (v := ?vu110) rfl (by kernel_rfl) (by kernel_rfl) (by kernel_rfl) (by kernel_rfl) (by kernel_rfl) (fun _ _ _ h => h) (Or.inl ⟨by rfl, ?hu110⟩) (by assumption) ?ru110
          case hu110 => (intro w9 hSw; (try dsimp only at hSw); go_simp; (try with_reducible rfl))
          simp only [Act.put, List.setIfInBounds_toArray, List.set_cons_zero, List.set_cons_succ]
          refine wpAnyU_take (i := 10) (v := ?vu111) rfl (by kernel_rfl) (by kernel_rfl) (by kernel_rfl) (by kernel_rfl) (by kernel_rfl) (fun _ _ _ h => h) (Or.inl ⟨by rfl, ?hu111⟩) (by assumption) ?ru111
          case hu111 => (intro w9 hSw; (try dsimp only at hSw); go_simp; (try with_reducible rfl))
          simp only [Act.put, List.setIfInBounds_toArray, List.set_cons_zero, List.set_cons_succ]
          refine wpAnyU_take (i := 11) (v := ?vu112) rfl (by kernel_rfl) (by kernel_rfl) (by kernel_rfl) (by kernel_rfl) (by kernel_rfl) (fun _ _ _ h => h) (Or.inl ⟨by rfl, ?hu112⟩) (by assumption) ?ru112
          case hu112 => (intro w9 hSw; (try dsimp only at hSw); go_simp; (try with_reducible rfl))
          simp only [Act.put, List.setIfInBounds_toArray, List.set_cons_zero, List.set_cons_succ]
          refine wpAnyU_take (i := 12) (v := ?vu113) rfl (by kernel_rfl) (by kernel_rfl) (by kernel_rfl) (by kernel_rfl) (by kernel_rfl) (fun _ _ _ h => h) (Or.inl ⟨by rfl, ?hu113⟩) (by assumption) ?ru113
          case hu113 => (intro w9 hSw; (try dsimp only at hSw); go_simp; (try with_reducible rfl))
          simp only [Act.put, List.setIfInBounds_toArray, List.set_cons_zero, List.set_cons_succ]
          refine wpAnyU_take (i := 13) (v := ?vu114) rfl (by kernel_rfl) (by kernel_rfl) (by kernel_rfl) (by kernel_rfl) (by kernel_rfl) (fun _ _ _ h => h) (Or.inl ⟨by rfl, ?hu114⟩) (by assumption) ?ru114
          case hu114 => (intro w9 hSw; (try dsimp only at hSw); go_simp; (try with_reducible rfl))
          simp only [Act.put, List.setIfInBounds_toArray, List.set_cons_zero, List.set_cons_succ]
          refine wpAnyU_next (i := 14) (by kernel_rfl) rfl (fun K hK => ?_)
          go_simp
          refine (FA (ol, oc) 30 _).mono ?_
          rintro e w5 ⟨fv, rfl, hfa, p5⟩
          have pr5 := pd.trans p5
          refine hK.out _ _ ?_ (fun hT => ?_)
          clear hK K
          try simp only [Act.put, List.setIfInBounds_toArray, List.set_cons_zero, List.set_cons_succ]
          · exact QT.out _ pr5
          have hb5 := bk_pur hbr pr5
          have f5 := bk_free hb5 0
          have k5 := bk_cell hb5 0 _ rfl
          have k5' := bk_cell (bk_set hb5 0 (.slice none 0 0)) 0 _ rfl
          have hfa2 := (hfa.mono (Nat.zero_le _)).set hb5 (by decide) 0 (.slice none 0 0)
          obtain ⟨fb, hfb⟩ : ∃ fb, fv = .iface 67 (.pointer (some ⟨fb, 0, none⟩)) := by
            obtain ⟨b, -, e, -⟩ := hfa; exact ⟨b, e⟩
          subst hfb
          refine wpAnyU_next (i := 15) (by kernel_rfl) rfl (fun K hK => ?_)
          go_simp
          refine hK.out _ _ ?_ (fun hT => ?_)
          clear hK K
          try simp only [Act.put, List.setIfInBounds_toArray, List.set_cons_zero, List.set_cons_succ]
          · have q := QT.out _ pr5
            exact ⟨cell_other q.1 (by show rb ≠ p.g; omega), cell_other q.2.1 (by show rb ≠ sg; exact hsgr.symm), cell_other q.2.2 (by show rb ≠ sg; exact hsgr.symm)⟩
          refine wpAnyU_tail 16 (by kernel_rfl) ?_
          simp only [List.drop_succ_cons, List.drop_zero]
          clear hT QT
          go_wp2
          refine bodyPost_ret (v := .tuple #[.agg #[.slice none 0 0], .iface 67 (.pointer (some ⟨fb, 0, none⟩))]) (by simp [results, Tryz.results7, go_sem, k5']) rfl ?_
          rw [e1.out]
          exact ⟨(Pr.trans pr5).setCell (by show w.heap.size ≤ rb; omega) _, _, rfl, hfa2⟩
        | none =>
          have hs0 : b.stack = [] := by simpa using ho
          obtain ⟨sa, sc, hsv⟩ := hAt.sshape
          have c1 := hAt.c1
          have c2 := hAt.c2
          have c0 := hAt.c0
          obtain ⟨na, nc, hnv⟩ := hAt.nshape
          rw [hsv, hs0] at c1
          rw [hnv] at c0
          simp only [List.length_nil] at c1
          rcases hbg : b.begun with _ | _
          · have e1 : R = .error ((1, 1), 33) := by rw [← HR.out]; unfold build; rw [D1.out]; dsimp only; rw [ho]; dsimp only; rw [hbg]; rfl
            have e1' := e1
            clear e1
            have e1 := Lib.hid e1'
            clear e1'
            rw [hbg] at c2
            clear hAt hsv ho hs0 hnv hbg
            go_wp2_with fail
            refine (FA (1, 1) 33 _).mono ?_
            rintro e w5 ⟨fv, rfl, hfa, p5⟩
            have hb5 := bk_pur hbr p5
            have f5 := bk_free hb5 0
            have k5 := bk_cell hb5 0 _ rfl
            have k5' := bk_cell (bk_set hb5 0 (.slice none 0 0)) 0 _ rfl
            have hfa2 := (hfa.mono (Nat.zero_le _)).set hb5 (by decide) 0 (.slice none 0 0)
            obtain ⟨fb, hfb⟩ : ∃ fb, fv = .iface 67 (.pointer (some ⟨fb, 0, none⟩)) := by
              obtain ⟨b, -, e, -⟩ := hfa; exact ⟨b, e⟩
            subst hfb
            clear kr fr kr2
            go_wp2
            refine bodyPost_ret (v := .tuple #[.agg #[.slice none 0 0], .iface 67 (.pointer (some ⟨fb, 0, none⟩))]) (by simp [results, Tryz.results7, go_sem, k5']) rfl ?_
            rw [e1.out]
            exact ⟨(Pr.trans p5).setCell (by show w.heap.size ≤ rb; omega) _, _, rfl, hfa2⟩
          · have e1 : R = .ok b.nodes := by rw [← HR.out]; unfold build; rw [D1.out]; dsimp only; rw [ho]; dsimp only; rw [hbg]; rfl
            have e1' := e1
            clear e1
            have e1 := Lib.hid e1'
            clear e1'
            rw [hbg] at c2
            have hrow : NodeRow (wr.setCell ⟨rb, 0, none⟩ (.slice na b.nodes.length nc)) rb p.nv p.evs b.nodes := hAt.nodes.same fun x hx => by
              rw [RowKit.Below.heap_setCell _ _ _ _ (fun e => hne x (List.mem_cons_of_mem _ (List.mem_append_right _ hx)) (show x = rb from e))]
            rw [hnv] at hrow
            have kk := kr2 (.slice na b.nodes.length nc)
            clear hAt hsv ho hs0 hnv hbg kr2
            go_wp2
            refine bodyPost_ret (v := .tuple #[.agg #[.slice na b.nodes.length nc], .nilIface]) (by simp [results, Tryz.results7, go_sem, kk]) rfl ?_
            rw [e1.out]
            exact ⟨Pr.setCell (by show w.heap.size ≤ rb; omega) _, _, _, rfl, by first | exact hrow | (rw [hrb]; exact hrow)⟩
end Te
end Go.Proofs.YtigfcchblfnnbaaGreatDoor
