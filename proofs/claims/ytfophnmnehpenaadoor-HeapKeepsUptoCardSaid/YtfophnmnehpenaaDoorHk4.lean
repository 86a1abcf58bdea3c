/- Layer 8: the law HeapKeeps, walked. -/
import Derived.Test.YtfophnmnehpenaaDoorHk2
import Derived.Test.YtfophnmnehpenaaDoorHk5
import Derived.Test.YtfophnmnehpenaaDoorHc2
namespace Go.Proofs.YtfophnmnehpenaaDoor
open Go Go.RowKit
set_option linter.all false
theorem At.keepV {w0 w w' : World} {hh G : Nat} {K : Nat → Prop} {d : Hd} (h : At w0 hh G K w d) (hp : Pur w w') {e : TypeId} {k n : Nat} {v : Value} {xs : List Value} (hrow : w'.ownsRow w.heap.size e k v n xs) : At w0 hh G (fun b => v.ownBlock = some b) w' d := by
  rcases hv : v.ownBlock with _ | g
  · exact (h.pure hp).1.sub (fun b hb => by cases hb)
  · have hl := hrow.lt g hv
    exact (h.keep hp g hl.1 hl.2).sub (fun b hb => .inr (by cases hb; rfl))
theorem str_cell {w : World} {B : Nat} {e : TypeId} {v : Value} {n : Nat} {ks : List (List UInt8)} (h : w.ownsRow B e 1 v n (keyVs ks)) (hn : 0 < n) : ∃ g c, v = .slice (some ⟨g, 0, none⟩) n c ∧ ∀ (j : Nat) k, ks[j]? = some k → w.cell? ⟨g, j, none⟩ = some (.string ⟨k.toArray⟩) := by
  rcases h.2 with ⟨rfl, h0⟩ | ⟨g, cap, cur, rfl, -⟩
  · omega
  · refine ⟨g, cap, rfl, fun j k hk => ?_⟩
    have hj := (List.getElem?_eq_some_iff.1 hk).1
    have hl := h.1
    rw [keyVs_len] at hl
    rw [h.cellAt j (by omega)]
    simp [keyVs, hk]
theorem at_drw {w : World} {b : Nat} {o : Obj} (h : w.heap[b]? = some o) : w.drew.heap[b]? = some o := h
theorem keys_le {G : Nat} {d : Hd} (h : d.Ok G) (i : Int) : (d.keys i).length ≤ 20000 := by
  unfold Hd.keys
  rcases ho : d.obj i with _ | x
  · simp
  · have := h.mem (Hd.obj_mem ho).1
    simp [Ob.all]
    omega
set_option maxRecDepth 100000 in
set_option maxHeartbeats 32000000 in
theorem keeps_law (sv : Value) (cs : List Cl) (l : List UInt8) (x : Va) (w : World) (hW : HpW w) (h : LRead 9 Cl.cells w sv cs) (hf : ∀ c ∈ cs, Fine w c) (hn : cs.length ≤ 1000000000) (hx : x.wf) :
    Calls Tryd.prog 6 #[sv, .string ⟨l.toArray⟩, x.v] w fun e w' => e = .returned (.bool true) ∧ Pur w w' := by
  obtain ⟨xk, xn, xt, xr⟩ := x
  have p0 : Pur w (w.alloc (.cells #[.int .i64 xk, .float .f64 xn, .string ⟨xt.toArray⟩, .int .i64 xr] 33)) := (Pur.refl w).alloc _
  have AW := awake_any (w.alloc (.cells #[.int .i64 xk, .float .f64 xn, .string ⟨xt.toArray⟩, .int .i64 xr] 33))
  have LO := fun w' (hp : Pur w w') => long_any sv cs w' (h.pur hp) (fun c hc => (hf c hc).slice) hn
  have N0 := fun w => new_st 10000 w
  have NM := fun y w => num_any y w
  have V0 := bk_new w (.cells (Va.mk xk xn xt xr).cells.toArray 33)
  obtain ⟨G, hGe⟩ : ∃ G : Nat, cellsOf 10000 = G := ⟨_, rfl⟩
  simp only [hGe] at N0
  obtain ⟨a, c, rfl, hC⟩ := h
  simp only [Va.v, Va.cells]
  rcases hlo : longB cs with _ | _
  case true =>
    rw [hlo] at LO
    clear hC N0 hf V0 NM
    go_enter Tryd.func6, Tryd.ntmps6
    go_wp2_with fail
    go_wp2_with fail
    refine (AW).mono ?_
    rintro e w1 ⟨rfl, p1⟩
    have LO' := LO _ (p0.trans p1)
    clear LO
    go_wp2_with fail
    refine LO'.mono ?_
    rintro e w2 ⟨rfl, h2⟩
    go_wp2
    go_ret
    exact ⟨rfl, (p0.trans p1).trans h2⟩
  rw [hlo] at LO
  by_cases hll : 200 < l.length
  case pos =>
    have hd : decide (200 < (l.length : Int)) = true := decide_eq_true (by omega)
    clear hC N0 hf V0 NM hlo hll
    go_enter Tryd.func6, Tryd.ntmps6
    go_wp2_with fail
    go_wp2_with fail
    refine (AW).mono ?_
    rintro e w1 ⟨rfl, p1⟩
    have LO' := LO _ (p0.trans p1)
    clear LO
    go_wp2_with fail
    refine LO'.mono ?_
    rintro e w2 ⟨rfl, h2⟩
    go_wp2
    go_ret
    exact ⟨rfl, (p0.trans p1).trans h2⟩
  have hd : decide (200 < (l.length : Int)) = false := decide_eq_false (by omega)
  have hkl : l.length ≤ 1000000 := by omega
  have hkl2 : (l ++ [0, 122]).length ≤ 1000000 ∧ (l ++ [0, 121]).length ≤ 1000000 := by simp; omega
  have HLO := Lib.hid hlo
  clear hlo hll hGe
  go_enter Tryd.func6, Tryd.ntmps6
  go_wp2_with fail
  go_wp2_with fail
  refine (AW).mono ?_
  rintro e w1 ⟨rfl, p1⟩
  have LO' := LO _ (p0.trans p1)
  clear LO AW
  go_wp2_with fail
  refine LO'.mono ?_
  rintro e w2 ⟨rfl, h2⟩
  have p2 := (p0.trans p1).trans h2
  have V2 := bk_pur V0 (p1.trans h2)
  clear LO' p1 h2 p0 V0
  go_wp2_with fail
  refine (N0 _).mono ?_
  rintro e w3 ⟨hh, rfl, A3⟩
  clear N0
  have hW2 := hW.pur p2
  go_wp2
  go_loopw [38] (fun i wr => ∃ (j : Nat) (d : Hd), j ≤ cs.length ∧ i = .int .i64 j ∧ At w2 hh G (fun _ => False) wr d) (fun i _ => cs.length + 1 - (intOf i).toNat)
  case atStart => exact ⟨0, _, by omega, rfl, A3⟩
  case round =>
    obtain ⟨j, d, hj, rfl, A⟩ := hrel
    by_cases hlt : j < cs.length
    · have hlt' : (j : Int) < cs.length := by omega
      have hj0 : (0 : Int) ≤ j := by omega
      have hwj : IntKind.i64.wrap ((j : Int) + 1) = j + 1 := IntWalk.i64_in _ (by omega)
      obtain ⟨x, hx'⟩ : ∃ x, cs[j]? = some x := ⟨_, List.getElem?_eq_getElem hlt⟩
      obtain ⟨b, o, ha, hb, hcell⟩ := hC j x hx'
      have hp0 := p2.trans A.pur
      have kk : ∀ (i : Nat) u, x.cells[i]? = some u → wr.cell? ⟨b, o + j * 9 + i, none⟩ = some u := fun i u hu => (hp0.cell (p := ⟨b, o + j * 9 + i, none⟩) hb).trans (hcell i u hu)
      have hfx := (hf x (List.mem_of_getElem? hx')).pur hp0
      have hp1 := (Pur.refl wr).alloc (.cells x.cells.toArray 54)
      have PL := play_st (A.pure hp1).1 x hW2 hfx.1 (by have := (good_of HLO.out (List.mem_of_getElem? hx')).1; omega) hfx.2.1 (hfx.2.2.1.pur hp1) hfx.2.2.2 (by have := (good_of HLO.out (List.mem_of_getElem? hx')).2; omega)
      obtain ⟨ia, ic, hie⟩ := hfx.slice
      obtain ⟨ck, ci, cn, cx, ⟨vk, vn, vt, vr⟩, its, cv⟩ := x
      simp only at hie
      subst hie ha
      simp only [Cl.vv, Cl.cells] at PL
      have k0 := kk 0 _ rfl
      have k1 := kk 1 _ rfl
      have k2 := kk 2 _ rfl
      have k3 := kk 3 _ rfl
      have k4 := kk 4 _ rfl
      have k5 := kk 5 _ rfl
      have k6 := kk 6 _ rfl
      have k7 := kk 7 _ rfl
      have k8 := kk 8 _ rfl
      rw [Nat.add_zero] at k0
      clear hC hf kk hcell hx' hfx hp0 A hp1 A3 hb V2 NM
      go_wp2_with fail
      refine PL.mono ?_
      rintro e w4 ⟨⟨vv, rfl⟩, d', A4, -⟩
      clear PL k0 k1 k2 k3 k4 k5 k6 k7 k8
      go_wp2
      go_roundw
      case rel => exact ⟨j + 1, d', by omega, by go_num, A4⟩
      case measure => simp [intOf]; omega
    · obtain rfl : j = cs.length := by omega
      clear hC hf A3 hlt HLO
      obtain ⟨l0, xs⟩ := d
      have hb := A.ok.bounds
      simp only at hb
      obtain ⟨hb1, hb2, hb3⟩ := hb
      have R := plain_st A (-1)
      rw [kp_plain1] at R
      simp only at R
      by_cases c1 : l0 < 1
      · rw [if_pos c1] at R
        go_wp2_with fail
        refine R.mono ?_
        rintro e w4 ⟨rfl, A4, -⟩
        have R2 := plain_st A4 0
        clear R
        go_wp2_with fail
        refine R2.mono ?_
        rintro e w5 ⟨rfl, A5, -⟩
        have PP := p2.trans A5.pur
        clear R2 A4 A5 A
        go_wp2
        go_ret
        exact ⟨rfl, PP⟩
      rw [if_neg c1] at R
      go_wp2_with fail
      refine R.mono ?_
      rintro e w4 ⟨rfl, A4, -⟩
      have R2 := plain_st A4 (xs.length : Int)
      rw [kp_plain2] at R2
      clear R A
      by_cases c2 : l0 - 1 < 1
      · rw [if_pos c2] at R2
        go_wp2_with fail
        refine R2.mono ?_
        rintro e w5 ⟨rfl, A5, -⟩
        have PP := p2.trans A5.pur
        clear R2 A4 A5
        go_wp2
        go_ret
        exact ⟨rfl, PP⟩
      rw [if_neg c2] at R2
      go_wp2_with fail
      refine R2.mono ?_
      rintro e w5 ⟨rfl, A5, -⟩
      clear R2 A4
      have KS := keys_st A5 (hW2.pur A5.pur) 0
      obtain ⟨ks0, hks⟩ : ∃ ks0, (Hd.mk (l0 - 1 - 1) (xs ++ [oA (-1) [] fun _ => none, oA (xs.length : Int) [] fun _ => none])).keys 0 = ks0 := ⟨_, rfl⟩
      have hkn : ks0.length ≤ 20000 := hks ▸ keys_le A5.ok 0
      have hk0 : 0 < xs.length → ∀ (l' : Int) (ys : List Ob), (Hd.mk l' (xs ++ ys)).keys 0 = ks0 := fun h l' ys => by rw [← hks, kp_keys0 l' 0 xs ys h, kp_keys0 _ 0 xs _ h]
      rw [hks] at KS
      obtain ⟨L, hL⟩ : ∃ L, l0 - 1 - 1 = L := ⟨_, rfl⟩
      simp only [hL] at A5 KS
      have hL0 : 0 ≤ L := by omega
      clear hb1 hb2 hb3 c1 c2 hL hks
      go_wp2_with fail
      refine KS.mono ?_
      rintro e w6 ⟨v6, rfl, h6, row6⟩
      have A6 := A5.keepV h6 row6
      obtain ⟨a6, c6, rfl⟩ := row_shape row6
      have V6 := bk_pur V2 A6.pur
      have P6 := p2.trans A6.pur
      clear KS A5 h6
      obtain ⟨C0, C1, C2, C3⟩ := cells4 V6
      simp only at C0 C1 C2 C3
      have R := put_st A6 (xs.length : Int) l ⟨xk, xn, xt, xr⟩ hx hkl
      simp only [Va.v, Va.cells] at R
      rcases hr : Va.right (xs.length + 2) ⟨xk, xn, xt, xr⟩ with _ | _
      · rw [kx_wrong _ _ _ _ _ _ _ _ hr] at R
        have hrr : Va.rightR ⟨xk, xn, xt, xr⟩ = false := by
          rcases h : Va.rightR ⟨xk, xn, xt, xr⟩ with _ | _
          · rfl
          · exact absurd (right_of _ _ h) (by rw [hr]; decide)
        go_wp2_with fail
        refine R.mono ?_
        rintro e w7 ⟨rfl, A7, -⟩
        clear R C0 C1 C2 C3 V6 A6 row6 P6
        have S := size_st A7
        have V7 := bk_pur V2 A7.pur
        have P7 := p2.trans A7.pur
        go_wp2_with fail
        refine S.mono ?_
        rintro e w8 ⟨rfl, h8⟩
        have V8 := bk_pur V7 h8
        have P8 := P7.trans h8
        clear S V7 A7 P7 h8
        obtain ⟨C0, C1, C2, C3⟩ := cells4 V8
        simp only at C0 C1 C2 C3
        by_cases h0 : L = 0
        · subst h0
          clear hr hrr V8 hk0
          go_upto_region 20 with (fail)
          go_region_with (fail)
          all_goals
            go_wp2
            go_ret
            exact ⟨rfl, drew_pur P8⟩
        obtain ⟨m, rfl⟩ : ∃ m : Nat, L = (m : Int) + 1 := ⟨(L - 1).toNat, by omega⟩
        have hd0 : decide ((m : Int) + 1 = 0) = false := decide_eq_false h0
        clear hk0 hr
        have RR := fun b w hb => rright_any b ⟨xk, xn, xt, xr⟩ w hb hx.2
        simp only [hrr, Va.v, Va.cells] at RR
        clear hrr
        go_upto_region 20 with (fail)
        go_region_with (first
          | (go_at_call 28; refine (rnew_any _).mono ?_; rintro e wn ⟨rfl, pn, bn⟩; obtain ⟨D0, D1, D2, D3⟩ := cells4 (bk_pur (at_drw V8) pn); simp only at D0 D1 D2 D3)
          | (go_at_call 29; refine (RR _ _ (by assumption)).mono ?_; rintro e wm ⟨rfl, pm⟩))
        all_goals
          go_wp2
          go_ret
          exact ⟨rfl, ((drew_pur P8).trans pn).trans pm⟩
      by_cases c3 : L < 1
      · obtain rfl : L = 0 := by omega
        rw [kx_full _ _ _ _ _ _ _ _ hr rfl (by omega)] at R
        go_wp2_with fail
        refine R.mono ?_
        rintro e w7 ⟨rfl, A7, -⟩
        clear R C0 C1 C2 C3 V6 A6 row6 P6
        have S := size_st A7
        have P7 := p2.trans A7.pur
        go_wp2_with fail
        refine S.mono ?_
        rintro e w8 ⟨rfl, h8⟩
        have P8 := P7.trans h8
        clear S A7 P7 h8 hr hk0
        go_upto_region 20 with (fail)
        go_region_with (fail)
        all_goals
          go_wp2
          go_ret
          exact ⟨rfl, drew_pur P8⟩
      rw [kx_new _ _ _ _ _ _ _ _ hr rfl c3] at R
      generalize hF1 : upd (fun _ => none) l (some ⟨xk, xn, xt, xr⟩) = F1 at R
      have f1 : F1 l = some ⟨xk, xn, xt, xr⟩ := by rw [← hF1, upd_at]
      have f1' : F1 (l ++ [0, 121]) = none := by rw [← hF1, upd_off _ _ (key_ne l 121)]
      clear hF1 hr
      go_wp2_with fail
      refine R.mono ?_
      rintro e w7 ⟨rfl, A7, K7⟩
      clear R C0 C1 C2 C3 A6
      have SM := fun w => rsame_self ⟨xk, xn, xt, xr⟩ w
      simp only [Va.v, Va.cells] at SM
      go_wp2_with fail
      refine (NM _ _).mono ?_
      rintro e w8 ⟨rfl, h8⟩
      obtain ⟨A8, K8⟩ := A7.pure h8
      have K8 := K7.trans K8
      clear A7 K7 h8
      have R := put_st A8 (xs.length + 1 : Int) (l ++ [0, 122]) (Va.num' 4607182418800017408) (by constructor <;> decide) hkl2.1
      by_cases c4 : L - 1 < 1
      · rw [kx_fullB _ _ _ _ _ _ _ _ (num_right _ _) rfl c4] at R
        have c4' : L - 1 < 2 := by omega
        simp only [Va.num', Va.v, Va.cells] at R
        go_wp2_with fail
        refine R.mono ?_
        rintro e w9 ⟨rfl, A9, -⟩
        clear R A8
        have S := size_st A9
        have P9 := p2.trans A9.pur
        go_wp2_with fail
        refine S.mono ?_
        rintro e w10 ⟨rfl, h10⟩
        have P10 := P9.trans h10
        clear S A9 P9 h10 hk0
        go_wp2
        go_ret
        exact ⟨rfl, P10⟩
      rw [kx_newB _ _ _ _ _ _ _ _ (num_right _ _) rfl c4] at R
      simp only [Va.num', Va.v, Va.cells] at R
      generalize hG1 : upd (fun _ => none) (l ++ [0, 122]) (some ⟨3, 4607182418800017408, [], 0⟩) = G1 at R
      have g1 : G1 l = none := by rw [← hG1, upd_off _ _ (key_ne l 122).symm]
      clear hG1
      go_wp2_with fail
      refine R.mono ?_
      rintro e w9 ⟨rfl, A9, K9⟩
      have K9 := K8.trans K9
      clear R A8 K8
      go_wp2_with fail
      refine (NM _ _).mono ?_
      rintro e w10 ⟨rfl, h10⟩
      obtain ⟨A10, K10⟩ := A9.pure h10
      have K10 := K9.trans K10
      clear A9 K9 h10
      have R := put_st A10 (xs.length : Int) (l ++ [0, 121]) (Va.num' 4611686018427387904) (by constructor <;> decide) hkl2.2
      by_cases c5 : L - 1 - 1 < 1
      · rw [kx_full _ _ _ _ _ _ _ _ (num_right _ _) f1' c5] at R
        have c5' : L - 1 - 1 < 2 := by omega
        simp only [Va.num', Va.v, Va.cells] at R
        go_wp2_with fail
        refine R.mono ?_
        rintro e w11 ⟨rfl, A11, -⟩
        clear R A10
        have S := size_st A11
        have P11 := p2.trans A11.pur
        go_wp2_with fail
        refine S.mono ?_
        rintro e w12 ⟨rfl, h12⟩
        have P12 := P11.trans h12
        clear S A11 P11 h12 hk0
        go_wp2
        go_ret
        exact ⟨rfl, P12⟩
      rw [kx_new _ _ _ _ _ _ _ _ (num_right _ _) f1' c5] at R
      simp only [Va.num', Va.v, Va.cells] at R
      generalize hF2 : upd F1 (l ++ [0, 121]) (some ⟨3, 4611686018427387904, [], 0⟩) = F2 at R
      have f2 : F2 l = some ⟨xk, xn, xt, xr⟩ := by rw [← hF2, upd_off _ _ (key_ne l 121).symm, f1]
      clear hF2 f1 f1'
      go_wp2_with fail
      refine R.mono ?_
      rintro e w11 ⟨rfl, A11, K11⟩
      have K11 := K10.trans K11
      clear R A10 K10
      have R := own_st A11 (xs.length : Int) l hkl
      rw [kx_own _ _ _ _ _ _ _ _ f2] at R
      simp only [Va.v, Va.cells] at R
      go_wp2_with fail
      refine R.mono ?_
      rintro e w12 ⟨rfl, h12⟩
      obtain ⟨A12, K12⟩ := A11.pure (h12.alloc ((.cells #[.int .i64 xk, .float .f64 xn, .string ⟨xt.toArray⟩, .int .i64 xr] 33)))
      have K12 := K11.trans K12
      have B12 : (w12.alloc ((.cells #[.int .i64 xk, .float .f64 xn, .string ⟨xt.toArray⟩, .int .i64 xr] 33))).heap[w12.heap.size]? = some (.cells (Va.mk xk xn xt xr).cells.toArray 33 (0, 0)) := bk_new _ _
      clear R A11 K11 h12
      have R := get_st A12 (xs.length + 1 : Int) l hkl
      rw [kx_get _ _ _ _ _ _ _ _ _ g1 f2] at R
      simp only [Va.v, Va.cells] at R
      go_wp2_with fail
      refine R.mono ?_
      rintro e w13 ⟨rfl, h13⟩
      obtain ⟨A13, K13⟩ := A12.pure (h13.alloc ((.cells #[.int .i64 xk, .float .f64 xn, .string ⟨xt.toArray⟩, .int .i64 xr] 33)))
      have K13 := K12.trans K13
      have B13 := bk_alloc (bk_pur B12 h13) ((.cells #[.int .i64 xk, .float .f64 xn, .string ⟨xt.toArray⟩, .int .i64 xr] 33))
      have B13' : (w13.alloc ((.cells #[.int .i64 xk, .float .f64 xn, .string ⟨xt.toArray⟩, .int .i64 xr] 33))).heap[w13.heap.size]? = some (.cells (Va.mk xk xn xt xr).cells.toArray 33 (0, 0)) := bk_new _ _
      have V13 := bk_pur V2 A13.pur
      clear R A12 K12 h13 B12 g1
      obtain ⟨C0, C1, C2, C3⟩ := cells4 B13
      obtain ⟨D0, D1, D2, D3⟩ := cells4 V13
      simp only at C0 C1 C2 C3 D0 D1 D2 D3
      have S := SM (w13.alloc ((.cells #[.int .i64 xk, .float .f64 xn, .string ⟨xt.toArray⟩, .int .i64 xr] 33)))
      go_wp2_with fail
      refine S.mono ?_
      rintro e w14 ⟨rfl, h14⟩
      obtain ⟨A14, K14⟩ := A13.pure h14
      have K14 := K13.trans K14
      have B14 := bk_pur B13' h14
      have V14 := bk_pur V13 h14
      clear S A13 K13 h14 B13 B13' V13 C0 C1 C2 C3 D0 D1 D2 D3
      obtain ⟨C0, C1, C2, C3⟩ := cells4 B14
      obtain ⟨D0, D1, D2, D3⟩ := cells4 V14
      simp only at C0 C1 C2 C3 D0 D1 D2 D3
      have S := SM w14
      go_wp2_with fail
      refine S.mono ?_
      rintro e w15 ⟨rfl, h15⟩
      obtain ⟨A15, K15⟩ := A14.pure h15
      have K15 := K14.trans K15
      clear S A14 K14 h15 B14 V14 C0 C1 C2 C3 D0 D1 D2 D3 SM
      go_wp2_with fail
      refine (NM _ _).mono ?_
      rintro e w16 ⟨rfl, h16⟩
      obtain ⟨A16, K16⟩ := A15.pure h16
      have K16 := K15.trans K16
      clear A15 K15 h16
      have R := put_st A16 (xs.length : Int) l (Va.num' 4613937818241073152) (by constructor <;> decide) hkl
      rw [kx_old _ _ _ _ _ _ _ _ (num_right _ _) f2] at R
      simp only [Va.num', Va.v, Va.cells] at R
      generalize hF3 : upd F2 l (some ⟨3, 4613937818241073152, [], 0⟩) = F3 at R
      have f3 : F3 l = some ⟨3, 4613937818241073152, [], 0⟩ := by rw [← hF3, upd_at]
      clear hF3 f2
      go_wp2_with fail
      refine R.mono ?_
      rintro e w17 ⟨rfl, A17, K17⟩
      have K17 := K16.trans K17
      clear R A16 K16
      have R := keys_st A17 (hW2.pur A17.pur) (xs.length : Int)
      rw [kx_keys] at R
      go_wp2_with fail
      refine R.mono ?_
      rintro e w18 ⟨v18, rfl, h18, row18⟩
      obtain ⟨A18, K18⟩ := A17.pure h18
      have K18 := K17.trans K18
      obtain ⟨a18, c18, rfl⟩ := row_shape row18
      clear R A17 K17 h18 row18
      have R := keys_st A18 (hW2.pur A18.pur) (xs.length : Int)
      rw [kx_keys] at R
      go_wp2_with fail
      refine R.mono ?_
      rintro e w19 ⟨v19, rfl, h19, row19⟩
      obtain ⟨A19, K19⟩ := A18.pure h19
      have K19 := K18.trans K19
      obtain ⟨g19, c19, rfl, cc⟩ := str_cell row19 (by simp)
      have cc := cc 0 l rfl
      clear R A18 K18 h19 row19
      have R := keys_st A19 (hW2.pur A19.pur) (xs.length + 1 : Int)
      rw [kx_keysB] at R
      go_wp2_with fail
      refine R.mono ?_
      rintro e w20 ⟨v20, rfl, h20, row20⟩
      obtain ⟨A20, K20⟩ := A19.pure h20
      have K20 := K19.trans K20
      obtain ⟨a20, c20, rfl⟩ := row_shape row20
      clear R A19 K19 h20 row20 cc
      have R := drop_st A20 (xs.length : Int) l hkl
      rw [kx_drop _ _ _ _ _ _ _ _ f3] at R
      rw [show (([] ++ [l]) ++ [l ++ [0, 121]] : List (List UInt8)) = [l, l ++ [0, 121]] from rfl, kx_filter] at R
      generalize hF4 : upd F3 l none = F4 at R
      have f4 : F4 l = none := by rw [← hF4, upd_at]
      clear hF4 f3
      go_wp2_with fail
      refine R.mono ?_
      rintro e w21 ⟨rfl, A21, K21⟩
      have K21 := K20.trans K21
      clear R A20 K20
      have R := drop_st A21 (xs.length : Int) l hkl
      rw [kx_undrop _ _ _ _ _ _ _ f4] at R
      go_wp2_with fail
      refine R.mono ?_
      rintro e w22 ⟨rfl, A22, K22⟩
      have K22 := K21.trans K22
      clear R A21 K21
      go_wp2_with fail
      refine (NM _ _).mono ?_
      rintro e w23 ⟨rfl, h23⟩
      obtain ⟨A23, K23⟩ := A22.pure h23
      have K23 := K22.trans K23
      clear A22 K22 h23
      have R := put_st A23 (xs.length : Int) l (Va.num' 4616189618054758400) (by constructor <;> decide) hkl
      rw [kx_new _ _ _ _ _ _ _ _ (num_right _ _) f4 (by omega)] at R
      simp only [Va.num', Va.v, Va.cells] at R
      go_wp2_with fail
      refine R.mono ?_
      rintro e w24 ⟨rfl, A24, K24⟩
      have K24 := K23.trans K24
      clear R A23 K23 f4
      have R := keys_st A24 (hW2.pur A24.pur) (xs.length : Int)
      rw [kx_keys] at R
      go_wp2_with fail
      refine R.mono ?_
      rintro e w25 ⟨v25, rfl, h25, row25⟩
      obtain ⟨A25, K25⟩ := A24.pure h25
      have K25 := K24.trans K25
      obtain ⟨g25, c25, rfl, cc⟩ := str_cell row25 (by simp)
      have cc := cc 1 l rfl
      have P25 := p2.trans A25.pur
      clear R A24 K24 h25 row25
      have R := keys_st A25 (hW2.pur A25.pur) 0
      have HK := fun w' (h : Pur w25 w') => K25.trans (A25.pure h).2
      have hk1 := fun h => hk0 h (L - 1 - 1 - 1 + 1 - 1) [oA (-1) ([l ++ [0, 121]] ++ [l]) (upd F4 l (some ⟨3, 4616189618054758400, [], 0⟩)), oA (xs.length : Int) ([] ++ [l ++ [0, 122]]) G1]
      clear hk0 c3 c4 c5 hL0 hkl hkl2 hn hj P6 V6 V2 A25 K25
      generalize xs.length = N at *
      rcases N with _ | N
      · clear row6 hk1 hkn R HK
        go_wp2
        go_ret
        exact ⟨rfl, P25⟩
      rw [hk1 (by omega)] at R
      clear hk1
      go_wp2_with fail
      refine R.mono ?_
      rintro e w26 ⟨v26, rfl, h26, row26⟩
      have K26 := HK w26 h26
      obtain ⟨a26, c26, rfl⟩ := row_shape row26
      have FB := (feeds_own (World.ownsRow_same row6 (w' := w26) (fun g hg => K26 g hg)) rfl (Pur.refl _)).2
      have FA := (feeds_own row26 rfl (Pur.refl _)).2
      have P26 := P25.trans h26
      clear R HK h26 row26 row6 K26 P25
      have T := texts_same a26 a6 c26 c6 ks0 w26 FA FB (by omega)
      go_wp2_with fail
      refine T.mono ?_
      rintro e w27 ⟨rfl, h27⟩
      go_wp2
      go_ret
      exact ⟨rfl, P26.trans h27⟩
end Go.Proofs.YtfophnmnehpenaaDoor
