/- Layer 8: the law HeapArrays, walked. -/
import Derived.Test.YtfophnmnehpenaaDoorHa1
namespace Go.Proofs.YtfophnmnehpenaaDoor
open Go Go.RowKit
set_option linter.all false
theorem row_item {w : World} {B : Nat} {e : TypeId} {g cap n : Nat} {l : List Va} (h : w.ownsRow B e 4 (.slice (some ⟨g, 0, none⟩) n cap) n (l.flatMap Va.cells)) {j : Nat} {x : Va} (hx : l[j]? = some x) (hn : l.length = n) (i : Nat) {u : Value} (hu : x.cells[i]? = some u) : w.cell? ⟨g, j * 4 + i, none⟩ = some u := by
  have hj := (List.getElem?_eq_some_iff.1 hx).1
  have hi : i < 4 := (List.getElem?_eq_some_iff.1 hu).1
  rw [h.cellAt (j * 4 + i) (by omega)]
  exact va_at l j x hx i u hu
theorem row_shape1 {w : World} {B : Nat} {e : TypeId} {k : Nat} {v : Value} {n : Nat} {xs : List Value} (h : w.ownsRow B e k v n xs) : ∃ a c, v = .slice a n c := row_shape h
set_option maxRecDepth 100000 in
set_option maxHeartbeats 16000000 in
theorem arrays_law (m c : Nat) (w : World) (hW : HpW w) (hm : m < 256) (hc : c < 256) :
    Calls Tryd.prog 4 #[.int .u8 m, .int .u8 c] w fun e w' => e = .returned (.bool true) ∧ Pur w w' := by
  have AW := awake_any w
  have N0 := fun w => new_st 10000 w
  rw [ar_e0] at N0
  have NM := fun x w => num_any x w
  have OF := fun w => of_any [108, 101, 110, 103, 116, 104] w (by decide)
  have KX := fun (n : Nat) (hn : n ≤ 2147483647) w hw => key_any (n : Int) w hw (by omega) (by omega)
  have hneg : (FloatKind.f64.format.order 13830554455654793216 13830554455654793216 != some Ordering.eq) = false := by kernel_rfl
  have hself := fun i (h : i < m) => fI_self i (by omega)
  unfold fI at hself
  obtain ⟨i0, hi0, hz⟩ := Option.map_eq_some_iff.1 va_info
  simp only [Prod.mk.injEq] at hz
  obtain ⟨hz0, hz1, hz2⟩ := hz
  obtain ⟨z0, hz0, hzs⟩ := Option.map_eq_some_iff.1 hz0
  obtain ⟨F1, G1⟩ : ∃ F : Nat, F = m + 1 := ⟨_, rfl⟩
  obtain ⟨F2, G2⟩ : ∃ F : Nat, F = m + 2 := ⟨_, rfl⟩
  obtain ⟨F3, G3⟩ : ∃ F : Nat, F = m + 3 := ⟨_, rfl⟩
  have i1 : (m : Int) + 1 = F1 := by omega
  have i2 : (m : Int) + 2 = F2 := by omega
  have i3 : (m : Int) + 3 = F3 := by omega
  have q1 : IntKind.i64.wrap (F1 : Int) = F1 := IntWalk.i64_in _ (by omega)
  have q2 : IntKind.i64.wrap (F2 : Int) = F2 := IntWalk.i64_in _ (by omega)
  have q3 : IntKind.i64.wrap (F3 : Int) = F3 := IntWalk.i64_in _ (by omega)
  have qm : IntKind.i64.wrap (m : Int) = m := IntWalk.i64_in _ (by omega)
  have qc : IntKind.i64.wrap (c : Int) = c := IntWalk.i64_in _ (by omega)
  have l1 : (F1 : Int) < F3 := by omega
  have l2 : (F2 : Int) < F3 := by omega
  have l3 : (0 : Int) ≤ F1 := by omega
  have l4 : (0 : Int) ≤ F2 := by omega
  have HG := Lib.hid (And.intro G1 (And.intro G2 G3))
  clear G1 G2 G3
  go_enter Tryd.func4, Tryd.ntmps4
  go_wp2_with fail
  go_wp2_with fail
  refine (AW).mono ?_
  rintro e w1 ⟨rfl, p1⟩
  go_wp2_with fail
  refine (N0 _).mono ?_
  rintro e w2 ⟨hh, rfl, A2⟩
  clear AW N0
  go_wp2
  go_loopw [6, 22] (fun l k wr => ∃ n : Nat, n ≤ m ∧ k = .int .i64 n ∧ Pur w2 wr ∧ wr.ownsRow w2.heap.size 33 4 l n ((arL n).flatMap Va.cells)) (fun _ k _ => m + 1 - (intOf k).toNat)
  case atStart => exact ⟨0, by omega, rfl, Pur.refl w2, World.ownsRow_nil _ _ _ _⟩
  case round =>
    obtain ⟨n, hn, rfl, hpr, hrow⟩ := hrel
    by_cases hlt : n < m
    · have hltI : (n : Int) < m := by omega
      have KT := Lib.hid (arL_succ n)
      have hc3 : n + 1 ≤ maxLen := by unfold maxLen; omega
      have hc4 : (n + 1) * 40 ≤ 140737488355328 := by omega
      have hwn : IntKind.i64.wrap ((n : Int) + 1) = n + 1 := IntWalk.i64_in _ (by omega)
      clear i1 i2 i3 q1 q2 q3 l1 l2 l3 l4 hself hneg
      go_wp2_with fail
      refine (NM _ _).mono ?_
      rintro e w3 ⟨rfl, h3⟩
      have hp2 := hpr.trans h3
      have R2 := (World.ownsRow_same hrow (fun g hg => h3.block g (hrow.lt g hg).2)).alloc (.cells #[.int .i64 3, .float .f64 (floatOfInt .f64 (n : Int)), .string ⟨#[]⟩, .int .i64 0] 33)
      have hbs := ((hp2.alloc (.cells #[.int .i64 3, .float .f64 (floatOfInt .f64 (n : Int)), .string ⟨#[]⟩, .int .i64 0] 33))).size
      clear hrow
      go_wp2_with (at_builtin; refine wpList_append_own_at _ rfl _ _ 30 rfl w2.heap.size 33 i0 z0 4 40 Tryd.underlying30 hi0 hz0 hz1 hz2 hzs (by decide) _ _ _ rfl R2 ⟨_, 0, none⟩ 1 1 [.int .i64 3, .float .f64 (floatOfInt .f64 (n : Int)), .string ⟨#[]⟩, .int .i64 0] rfl rfl ?c1 ?c2 ?c3 ?c4 ?c5 ?_)
      case c1 =>
        intro j u hj
        have e := bk_cell (bk_new w3 (.cells #[.int .i64 3, .float .f64 (floatOfInt .f64 (n : Int)), .string ⟨#[]⟩, .int .i64 0] 33)) j u (by simpa using hj)
        have ea : (⟨w3.heap.size, 0, none⟩ : Addr).add j = ⟨w3.heap.size, j, none⟩ := by unfold Addr.add; split <;> simp_all
        rw [ea]
        exact e
      case c2 => intro u hu; simp at hu; rcases hu with rfl | rfl | rfl | rfl <;> rfl
      case c3 => exact hc3
      case c4 => exact hc4
      case c5 => exact hbs
      intro v5 w5 hown5 hgrow _ _
      have hp5 : Pur w2 w5 := Below.grown (hp2.alloc (.cells #[.int .i64 3, .float .f64 (floatOfInt .f64 (n : Int)), .string ⟨#[]⟩, .int .i64 0] 33)) hgrow hbs (fun k hk => (R2.lt k hk).1)
      have hown6 : w5.ownsRow w2.heap.size 33 4 v5 (n + 1) ((arL (n + 1)).flatMap Va.cells) := by rw [KT.out, List.flatMap_append]; exact hown5
      clear hown5 hgrow R2 KT hp2 h3 hpr
      go_wp2
      go_roundw
      case rel => exact ⟨n + 1, by omega, by go_num, hp5, hown6⟩
      case measure => simp [intOf]; omega
    · obtain rfl : n = m := by omega
      have A3 := (A2.pure hpr).1
      have wf := fun x (hx : x ∈ arL n) => show Va.wf x by
        obtain ⟨i, hi, rfl⟩ := List.mem_map.1 hx
        exact fI_wf i (by have := List.mem_range.1 hi; omega)
      have hrow2 : wr.ownsRow w2.heap.size 33 4 (u6) (arL n).length ((arL n).flatMap Va.cells) := by rw [arL_len]; exact hrow
      have R3 := array_st A3 _ (arL n) (VRead.of_own hrow2) wf (by rw [arL_len]; omega)
      rw [ar_e1 n hm] at R3
      have K2 := KX F2 (by have := HG.out.2.1; omega)
      clear hrow hrow2 wf hlt
      go_wp2_with fail
      refine R3.mono ?_
      rintro e w3 ⟨rfl, A4, -⟩
      have P3 := p1.trans A4.pur
      clear R3 A3 A2 hpr
      go_wp2_with fail
      refine (K2 _ (hW.pur P3)).mono ?_
      rintro e w4 ⟨rfl, h4⟩
      go_wp2_with fail
      refine (NM _ _).mono ?_
      rintro e w5 ⟨rfl, h5⟩
      have A5 := (A4.pure (h4.trans h5)).1
      have R5 := put_st A5 0 (keyOf (F2 : Int)) (Va.num' negOne) ⟨by decide, by decide⟩ (by
        unfold keyOf
        rw [wide8_len]
        have := itoa_short (F2 : Int) (by omega) (by have := HG.out.2.1; omega)
        omega)
      have E2 := ar_e2 n hm
      rw [← HG.out.2.1] at E2
      rw [E2] at R5
      simp only [Va.num', Va.v, Va.cells, negOne] at R5
      clear E2 A4 h4 h5 K2 P3
      go_wp2_with fail
      refine R5.mono ?_
      rintro e w6 ⟨rfl, A6, -⟩
      have I6 := items_st A6 0
      rw [ar_e3] at I6
      simp only [Option.isSome_some, Option.getD_some] at I6
      rw [arI_len, ← HG.out.2.2] at I6
      have Y6 := keys_st A6 (hW.pur (p1.trans A6.pur)) 0
      have Y7 := fun w' (hp : Pur w6 w') => keys_st (A6.pure hp).1 (hW.pur (p1.trans (A6.pur.trans hp))) 0
      clear R5 A5 Y6
      go_wp2_with fail
      refine I6.mono ?_
      rintro e w7 ⟨v7, rfl, h7, hrow7⟩
      obtain ⟨g, cap, rfl⟩ := row_some hrow7 (by omega)
      have k0 := row_item hrow7 (arI_mid n) (by rw [arI_len, HG.out.2.2]) 0 rfl
      have k1 := row_item hrow7 (arI_top n) (by rw [arI_len, HG.out.2.2]) 1 rfl
      rw [← HG.out.1, Nat.add_zero] at k0
      rw [← HG.out.2.1] at k1
      have Y := Y7 _ h7
      rw [show (Hd.mk (10000 - (1 + n) - 3) [arO (arI n)]).keys 0 = (Hd.mk (10000 - (1 + n) - 3) [arO (arI n)]).keys 0 from rfl, ar_keys, arI_len, ← HG.out.2.2] at Y
      have A7 := (A6.pure h7).1
      clear I6 Y7 A6 h7 hrow7
      simp only [Va.zero, Va.num', negOne] at k0 k1
      go_wp2_with fail
      refine Y.mono ?_
      rintro e w8 ⟨v8, rfl, h8, hrow8⟩
      obtain ⟨a8, c8, rfl⟩ := row_shape1 hrow8
      have A8 := (A7.pure h8).1
      clear Y A7 h8 hrow8 k0 k1
      go_wp2_with fail
      refine (OF _).mono ?_
      rintro e w9 ⟨rfl, h9⟩
      go_wp2_with fail
      refine (NM _ _).mono ?_
      rintro e w10 ⟨rfl, h10⟩
      have A10 := (A8.pure (h9.trans h10)).1
      have R10 := put_st A10 0 lenKey (Va.num' (fI c)) (fI_wf c hc) (by decide)
      rw [ar_e4 n c hm hc] at R10
      simp only [Va.num', Va.v, Va.cells, fI] at R10
      rw [← aw_wide] at R10
      clear A8 h9 h10 OF
      go_wp2_with fail
      refine R10.mono ?_
      rintro e w11 ⟨rfl, A11, -⟩
      have I11 := items_st A11 0
      rw [ar_e3] at I11
      simp only [Option.isSome_some, Option.getD_some] at I11
      rw [arJ_len] at I11
      clear R10 A10
      go_wp2_with fail
      refine I11.mono ?_
      rintro e w12 ⟨v12, rfl, h12, hrow12⟩
      have A12 := (A11.pure h12).1
      have P12 := p1.trans A12.pur
      have KC := KX c (by omega) _ (hW.pur P12)
      have OW := fun w' (hp : Pur w12 w') => own_st (A12.pure hp).1 0 (keyOf (c : Int)) (by
        unfold keyOf
        rw [wide8_len]
        have := itoa_short (c : Int) (by omega) (by omega)
        omega)
      rw [ar_e5 _ c hc _ (arJ_len n c)] at OW
      simp only [Va.zero, Va.v, Va.cells] at OW
      obtain ⟨a12, c12, rfl⟩ := row_shape hrow12
      have IT : ∀ j : Nat, j < n → j < c → ∃ g, a12 = some ⟨g, 0, none⟩ ∧ w12.cell? ⟨g, j * 4 + 1, none⟩ = some (.float .f64 (floatOfInt .f64 (j : Int))) := fun j h1 h2 => by
        obtain ⟨g, cap, e⟩ := row_some hrow12 (by omega)
        rw [e] at hrow12
        simp only [Value.slice.injEq] at e
        exact ⟨g, e.1, row_item hrow12 (arJ_low n c j h1 h2) (arJ_len n c) 1 rfl⟩
      clear I11 A11 h12 hrow12 A12 i1 i2 i3 q1 q2 q3 l1 l2 l3 l4 HG hneg
      go_wp2
      go_loopw [113] (fun k wr => ∃ j : Nat, j ≤ c ∧ k = .int .i64 j ∧ wr = w12) (fun k _ => c + 1 - (intOf k).toNat)
      case atStart => exact ⟨0, by omega, rfl, rfl⟩
      case round =>
        obtain ⟨j, hj, rfl, rfl⟩ := hrel
        by_cases hjc : j < c
        · have hjI : (j : Int) < c := by omega
          have hj0 : (0 : Int) ≤ j := by omega
          have hwj : IntKind.i64.wrap ((j : Int) + 1) = j + 1 := IntWalk.i64_in _ (by omega)
          by_cases hjm : j < n
          · obtain ⟨g, rfl, kj⟩ := IT j hjm hjc
            have hjnI : (j : Int) < n := by omega
            have hsj := hself j hjm
            clear hself IT
            go_wp2
            go_roundw
            case rel => exact ⟨j + 1, by omega, by go_num, trivial⟩
            case measure => simp [intOf]; omega
          · have hjnI : decide ((j : Int) < n) = false := decide_eq_false (by omega)
            have hjn2 : ¬ (j : Int) < n := by omega
            clear hself IT
            go_wp2
            go_roundw
            case rel => exact ⟨j + 1, by omega, by go_num, trivial⟩
            case measure => simp [intOf]; omega
        · obtain rfl : j = c := by omega
          clear hself IT
          go_wp2_with fail
          refine KC.mono ?_
          rintro e w13 ⟨rfl, h13⟩
          have OW' := OW _ h13
          clear KC OW
          go_wp2_with fail
          refine OW'.mono ?_
          rintro e w14 ⟨rfl, h14⟩
          clear OW'
          go_wp2
          go_ret
          exact ⟨rfl, (P12.trans (h13.trans h14)).alloc _⟩
theorem arrays_int (n c : Int) (w : World) (hW : HpW w) (hn0 : 0 ≤ n) (hn1 : n ≤ 255) (hc0 : 0 ≤ c) (hc1 : c ≤ 255) :
    Calls Tryd.prog 4 #[.int .u8 n, .int .u8 c] w fun e w' => e = .returned (.bool true) ∧ Pur w w' := by
  obtain ⟨n, rfl⟩ := Int.eq_ofNat_of_zero_le hn0
  obtain ⟨c, rfl⟩ := Int.eq_ofNat_of_zero_le hc0
  exact arrays_law n c w hW (by omega) (by omega)
end Go.Proofs.YtfophnmnehpenaaDoor
