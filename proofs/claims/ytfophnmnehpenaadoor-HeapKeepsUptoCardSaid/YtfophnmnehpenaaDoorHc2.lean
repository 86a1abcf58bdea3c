/- Layer 8: the law HeapCells, walked. -/
import Derived.Test.YtfophnmnehpenaaDoorHA15
import Derived.Test.YtfophnmnehpenaaDoorHc1
namespace Go.Proofs.YtfophnmnehpenaaDoor
open Go Go.RowKit
set_option linter.all false
/-- the cells that the first j objects' keys and items take -/
def Hd.tk (d : Hd) (j : Nat) : Nat := ((d.xs.take j).map fun x => x.keys.length + x.items.length).sum
theorem tk_zero (d : Hd) : d.tk 0 = 0 := by simp [Hd.tk]
theorem tk_succ (d : Hd) (j : Nat) (h : j < d.xs.length) : d.tk (j + 1) = d.tk j + (d.keys (j : Int)).length := by
  unfold Hd.tk
  have hx : d.xs[j]? = some d.xs[j] := List.getElem?_eq_getElem h
  have ho : d.obj (j : Int) = some d.xs[j] := by unfold Hd.obj; rw [if_neg (by omega)]; simpa using hx
  have hk : (d.keys (j : Int)).length = d.xs[j].keys.length + d.xs[j].items.length := by
    simp [Hd.keys, ho, Ob.all]
    omega
  rw [List.take_add_one, hx, List.map_append, List.sum_append, hk]
  rfl
theorem cost_sum (xs : List Ob) : (xs.map Ob.cost).sum = xs.length + (xs.map fun x => x.keys.length + x.items.length).sum := by
  induction xs with
  | nil => rfl
  | cons x r ih => simp only [List.map_cons, List.sum_cons, List.length_cons, ih, Ob.cost]; omega
theorem tk_all (d : Hd) : d.xs.length + d.tk d.xs.length = d.taken := by
  unfold Hd.tk Hd.taken
  rw [List.take_length, cost_sum]
/-- what a law asks of a script: each call's items read, and its values are such as a machine holds -/
def Fine (w : World) (c : Cl) : Prop := c.kind < 256 ∧ c.v.wf ∧ VRead2 w c.iv c.items ∧ ∀ x ∈ c.items, x.wf
theorem Fine.pur {w w' : World} {c : Cl} (h : Fine w c) (hp : Pur w w') : Fine w' c := ⟨h.1, h.2.1, h.2.2.1.pur hp, h.2.2.2⟩
theorem Fine.slice {w : World} {c : Cl} (h : Fine w c) : ∃ a cc, c.iv = .slice a c.items.length cc := by
  rcases h.2.2.1 with hv | ⟨a, cc, e, e2⟩
  · obtain ⟨a, cc, e, -⟩ := hv.each
    exact ⟨a, cc, e⟩
  · exact ⟨some a, cc, by rw [e, e2]; rfl⟩
theorem good_of {cs : List Cl} (h : longB cs = false) {c : Cl} (hc : c ∈ cs) : c.key.length ≤ 200 ∧ c.items.length ≤ 60 := by
  unfold longB at h
  rw [Bool.or_eq_false_iff, List.any_eq_false] at h
  have hb := h.2 c hc
  unfold Cl.bad at hb
  simp only [Bool.or_eq_true, decide_eq_true_eq, not_or] at hb
  omega
set_option maxRecDepth 100000 in
set_option maxHeartbeats 16000000 in
theorem cells_law (n : Int) (v : Value) (cs : List Cl) (w : World) (hW : HpW w) (h : LRead 9 Cl.cells w v cs) (hf : ∀ c ∈ cs, Fine w c) (hn : cs.length ≤ 1000000000) :
    Calls Tryd.prog 7 #[.int .i64 n, v] w fun e w' => e = .returned (.bool true) ∧ Pur w w' := by
  have AW := awake_any w
  have LO := fun w' (hp : Pur w w') => long_any v cs w' (h.pur hp) (fun c hc => (hf c hc).slice) hn
  have N0 := fun w => new_st n w
  have hG : ((cellsOf n : Nat) : Int) = min (max n 0) 10000 := by unfold cellsOf; omega
  obtain ⟨a, c, rfl, hC⟩ := h
  rcases hlo : longB cs with _ | _
  case true =>
    rw [hlo] at LO
    clear hC N0 hf hG
    go_enter Tryd.func7, Tryd.ntmps7
    go_wp2_with fail
    go_wp2_with fail
    refine (AW).mono ?_
    rintro e w1 ⟨rfl, p1⟩
    have LO' := LO _ p1
    clear LO
    go_wp2_with fail
    refine LO'.mono ?_
    rintro e w2 ⟨rfl, h2⟩
    go_wp2
    go_ret
    exact ⟨rfl, p1.trans h2⟩
  rw [hlo] at LO
  obtain ⟨G, hGe⟩ : ∃ G : Nat, cellsOf n = G := ⟨_, rfl⟩
  rw [hGe] at hG
  simp only [hGe] at N0
  have HLO := Lib.hid hlo
  clear hlo
  go_enter Tryd.func7, Tryd.ntmps7
  go_wp2_with fail
  go_wp2_with fail
  refine (AW).mono ?_
  rintro e w1 ⟨rfl, p1⟩
  have LO' := LO _ p1
  clear LO
  go_wp2_with fail
  refine LO'.mono ?_
  rintro e w2 ⟨rfl, h2⟩
  have p2 := p1.trans h2
  clear AW LO' p1 h2
  go_wp2_with fail
  refine (N0 _).mono ?_
  rintro e w3 ⟨hh, rfl, A3⟩
  clear N0 hGe
  have hW2 := hW.pur p2
  obtain ⟨gv, hgv⟩ : ∃ gv : Int, gv = min (max n 0) 10000 := ⟨_, rfl⟩
  rw [← hgv] at hG
  have hgv' : min (max n 0) 10000 = gv := hgv.symm
  clear hgv
  go_wp2
  go_loopw [26] (fun i wr => ∃ (j : Nat) (d : Hd), j ≤ cs.length ∧ i = .int .i64 j ∧ At w2 hh G (fun _ => False) wr d) (fun i _ => cs.length + 1 - (intOf i).toNat)
  case atStart => exact ⟨0, _, by omega, rfl, A3⟩
  case round =>
    obtain ⟨j, d, hj, rfl, A⟩ := hrel
    by_cases hlt : j < cs.length
    · have hlt' : (j : Int) < cs.length := by omega
      have hj0 : (0 : Int) ≤ j := by omega
      have hwj : IntKind.i64.wrap ((j : Int) + 1) = j + 1 := IntWalk.i64_in _ (by omega)
      obtain ⟨x, hx⟩ : ∃ x, cs[j]? = some x := ⟨_, List.getElem?_eq_getElem hlt⟩
      obtain ⟨b, o, ha, hb, hcell⟩ := hC j x hx
      have hp0 := p2.trans A.pur
      have kk : ∀ (i : Nat) u, x.cells[i]? = some u → wr.cell? ⟨b, o + j * 9 + i, none⟩ = some u := fun i u hu => (hp0.cell (p := ⟨b, o + j * 9 + i, none⟩) hb).trans (hcell i u hu)
      have hfx := (hf x (List.mem_of_getElem? hx)).pur hp0
      have hp1 := (Pur.refl wr).alloc (.cells x.cells.toArray 54)
      have PL := play_st (A.pure hp1).1 x hW2 hfx.1 (by have := (good_of HLO.out (List.mem_of_getElem? hx)).1; omega) hfx.2.1 (hfx.2.2.1.pur hp1) hfx.2.2.2 (by have := (good_of HLO.out (List.mem_of_getElem? hx)).2; omega)
      obtain ⟨ia, ic, hie⟩ := hfx.slice
      obtain ⟨xk, xi, xn, xs, ⟨vk, vn, vt, vr⟩, its, xv⟩ := x
      simp only at hie
      subst hie ha
      simp only [Cl.vv, Cl.cells] at PL
      have k0 := kk 0 _ rfl
      have k1 := kk 1 _ rfl
      have k2 := kk 2 _ rfl
      have k3 := kk 3 _ rfl
      have k4 := kk 4 _ rfl
      have k5 := kk 5 _ rfl
      have k6 := kk 6 _ rfl
      have k7 := kk 7 _ rfl
      have k8 := kk 8 _ rfl
      rw [Nat.add_zero] at k0
      clear hC hf kk hcell hx hfx hp0 A hp1 A3 hgv' hb
      go_wp2_with fail
      refine PL.mono ?_
      rintro e w4 ⟨⟨vv, rfl⟩, d', A4, -⟩
      have SZ := size_st A4
      clear PL k0 k1 k2 k3 k4 k5 k6 k7 k8
      go_wp2_with fail
      refine SZ.mono ?_
      rintro e w5 ⟨rfl, h5⟩
      have A5 := (A4.pure h5).1
      obtain ⟨l0, hsum, lG, -⟩ := A5.ok
      have hall := tk_all d'
      have hbd := A5.ok.bounds
      clear SZ A4 h5
      go_wp2
      go_loopw [11, 40] (fun t i wr2 => ∃ q : Nat, q ≤ d'.xs.length ∧ i = .int .i64 q ∧ t = .int .i64 ((d'.xs.length : Int) + d'.tk q) ∧ d'.tk q ≤ d'.taken ∧ At w2 hh G (fun _ => False) wr2 d') (fun _ i _ => d'.xs.length + 1 - (intOf i).toNat)
      case atStart => exact ⟨0, by omega, rfl, by simp [tk_zero], by rw [tk_zero]; omega, A5⟩
      case round =>
        obtain ⟨q, hq, rfl, rfl, htq, A6⟩ := hrel
        by_cases hql : q < d'.xs.length
        · have hqI : (q : Int) < d'.xs.length := by omega
          have hwq : IntKind.i64.wrap ((q : Int) + 1) = q + 1 := IntWalk.i64_in _ (by omega)
          have KS := keys_st A6 (hW2.pur A6.pur) (q : Int)
          have hts := tk_succ d' q hql
          have hmono : d'.tk (q + 1) ≤ d'.taken := by
            have h1 : d'.tk (q + 1) ≤ d'.tk d'.xs.length := by
              unfold Hd.tk
              rw [List.take_length]
              have h2 := List.take_append_drop (q + 1) d'.xs
              conv => rhs; rw [← h2]
              rw [List.map_append, List.sum_append]
              omega
            omega
          generalize (d'.keys (q : Int)).length = kl at *
          have hws : IntKind.i64.wrap ((d'.xs.length : Int) + d'.tk q + kl) = d'.xs.length + d'.tk q + kl := IntWalk.i64_in _ (by omega)
          have HT := Lib.hid (And.intro hts hmono)
          clear hts hmono hall hsum
          go_wp2_with fail
          refine KS.mono ?_
          rintro e w7 ⟨v7, rfl, h7, hrow⟩
          obtain ⟨a7, c7, rfl⟩ := row_shape hrow
          have A7 := (A6.pure h7).1
          clear KS hrow h7 A6
          go_wp2
          go_roundw
          case rel => exact ⟨q + 1, by omega, by go_num, by rw [HT.out.1]; simp only [Value.int.injEq, true_and]; omega, HT.out.2, A7⟩
          case measure => simp [intOf]; omega
        · obtain rfl : q = d'.xs.length := by omega
          have hfin : (d'.xs.length : Int) + d'.tk d'.xs.length + d'.left = gv := by omega
          have hw1 : IntKind.i64.wrap gv = gv := IntWalk.i64_in _ (by omega)
          have hl0 : decide (d'.left < 0) = false := decide_eq_false (by omega)
          clear hall hsum lG hbd htq
          go_wp2
          go_roundw
          case rel => exact ⟨j + 1, d', by omega, by go_num, A6⟩
          case measure => simp [intOf]; omega
    · obtain rfl : j = cs.length := by omega
      have hp := p2.trans A.pur
      clear hC hf A3 hgv'
      go_wp2
      go_ret
      exact ⟨rfl, hp⟩
end Go.Proofs.YtfophnmnehpenaaDoor
