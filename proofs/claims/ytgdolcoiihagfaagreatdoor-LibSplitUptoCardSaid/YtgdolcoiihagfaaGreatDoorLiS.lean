/- Layer 10, LibArrays in plain words: an array beside a plain object, and copies of it. Layer 10: an array of texts, joined. Layer 10: an array's builtins: join. The law LibSplit. Layer 10: the law LibSplit, walked. -/
import Derived.Test.YtgdolcoiihagfaaGreatDoorHaD
import Derived.Test.YtgdolcoiihagfaaGreatDoorLiF
import Derived.Test.YtgdolcoiihagfaaGreatDoorLiH
namespace Go.Proofs.YtgdolcoiihagfaaGreatDoor
open Go Go.RowKit
set_option linter.all false
namespace Li
def obP : Ob := Ob.fresh 1 (-1) 0 0 0 []
def obA (l : List Va) : Ob := Ob.fresh 2 (-1) 0 0 0 l
def hd (c : Int) (l : List Va) (rest : List Ob) : Hd := ⟨c, obP :: obA l :: rest⟩
def R (n : Nat) (l : List Va) : Prop := ∀ v ∈ l, v.right n = true
theorem right_up (v : Va) (n m : Nat) (h : n ≤ m) (hv : v.right n = true) : v.right m = true := by
  unfold Va.right at hv ⊢
  split
  · rename_i h1; rw [if_pos h1] at hv; exact hv
  · rename_i h1; rw [if_neg h1] at hv
    split
    · rename_i h2; rw [if_pos h2] at hv; exact hv
    · rename_i h2; rw [if_neg h2] at hv
      split
      · rename_i h3; rw [if_pos h3] at hv; exact hv
      · rename_i h3; rw [if_neg h3] at hv
        split
        · rename_i h4; rw [if_pos h4] at hv; exact hv
        · rename_i h4; rw [if_neg h4] at hv
          split
          · rename_i h5; rw [if_pos h5] at hv
            simp only [Bool.and_eq_true, Bool.or_eq_true, decide_eq_true_eq] at hv ⊢
            refine ⟨hv.1, ?_⟩
            rcases hv.2 with h | h
            · exact .inl h
            · exact .inr (by omega)
          · rename_i h5; rw [if_neg h5] at hv; exact hv
theorem R.up {n m : Nat} {l : List Va} (h : R n l) (hm : n ≤ m) : R m l := fun v hv => right_up v n m hm (h v hv)
def over (l m : List Va) (k : Nat) : List Va := m.take k ++ l.drop k
end Li
end Go.Proofs.YtgdolcoiihagfaaGreatDoor
namespace Go.Proofs.YtgdolcoiihagfaaGreatDoor
open Go Go.RowKit
set_option linter.all false
namespace Li
set_option maxRecDepth 100000 in
set_option maxHeartbeats 4000000 in
theorem cshort_ok (cv : Value) (t : List UInt8) (ht : t.length ≤ 16000) (w : World) :
    Calls Tryz.prog 111 #[cv, .string ⟨t.toArray⟩] w fun e w' => e = .returned (tx t).v ∧ Pur w w' := by
  have PA : Pur w (w.alloc (.cells #[.int .i64 0, .float .f64 0, .string ⟨#[]⟩, .int .i64 0] 25)) := (Pur.refl w).alloc _
  have NB := bk_new w (.cells #[.int .i64 0, .float .f64 0, .string ⟨#[]⟩, .int .i64 0] 25)
  have LE := fun w => length_any t w (by omega)
  have TE := fun w => etext_any t w
  have d1 : decide ((8192 : Int) < ((t.length / 2 : Nat) : Int)) = false := decide_eq_false (by omega)
  simp only [tx, Va.v, Va.cells]
  generalize t.length / 2 = n at *
  go_enter Tryz.func111, Tryz.ntmps111
  go_wp2_with fail
  generalize w.alloc (.cells #[.int .i64 0, .float .f64 0, .string ⟨#[]⟩, .int .i64 0] 25) = wA at *
  refine (LE _).mono ?_
  rintro e w1 ⟨rfl, rfl⟩
  go_wp2_with fail
  refine (TE _).mono ?_
  rintro e w2 ⟨rfl, p2⟩
  have NB3 := bk_pur NB p2
  obtain ⟨⟨s0, s1⟩, ⟨s2, s3⟩, ⟨s4, s5⟩, ⟨s6, s7⟩⟩ := st4_steps (y := Va.zero) (x := tx t) NB3
  have R8 := st4_at (y := Va.zero) (x := tx t) NB3
  have P8 := st4_pur (b := w.heap.size) (x := tx t) (PA.trans p2) (Nat.le_refl _)
  have HF := Lib.hid (And.intro R8 P8)
  clear R8 P8 NB3 NB p2 PA TE LE d1
  simp only [st4, Va.zero, tx] at s0 s1 s2 s3 s4 s5 s6 s7 HF
  go_wp2
  refine bodyPost_ret (results_cell_row rfl _ _ w.heap.size 25 _ (0, 0) _ rfl HF.out.1 Tryz.underlying25 rfl (by kernel_rfl)) rfl ⟨rfl, HF.out.2⟩
theorem joinU_snoc (p x : List UInt8) : ∀ L : List (List UInt8), L ≠ [] → joinU p (L ++ [x]) = joinU p L ++ (p ++ x)
  | [], h => absurd rfl h
  | [a], _ => by simp [joinU]
  | a :: b :: r, _ => by
    have ih := joinU_snoc p x (b :: r) (by simp)
    simp only [List.cons_append] at ih ⊢
    rw [joinU, ih, joinU]
    simp
theorem tx_at (L : List (List UInt8)) (j : Nat) (t : List UInt8) (h : L[j]? = some t) : (L.map tx)[j]? = some (tx t) := by rw [List.getElem?_map, h]; rfl
set_option maxRecDepth 100000 in
set_option maxHeartbeats 16000000 in
theorem cjoin_ok {w : World} {hh cb : Nat} {v : Va} {av : Value} (p : List UInt8) (L : List (List UInt8)) (vv : Value) (hc : CB w cb hh v av [tx p]) (hv : VRead w vv (L.map tx)) (hT : UT w) (hn : L.length ≤ 10000) (hp : p.length ≤ 4000) (hj : ∀ k, (joinU p (L.take k)).length ≤ 8000) (hs : ∀ x ∈ L, x.length ≤ 8000) :
    Calls Tryz.prog 75 #[.pointer (some ⟨cb, 0, none⟩), vv] w fun e w' => e = .returned (tx (joinU p L)).v ∧ Pur w w' := by
  obtain ⟨va, vc, hvs, hve⟩ := hv.each
  have hlen : (L.map tx).length = L.length := List.length_map _
  rw [hlen] at hvs
  subst hvs
  have PA : Pur w (w.alloc (.cells #[.int .i64 0, .float .f64 0, .string ⟨#[]⟩, .int .i64 0] 25)) := (Pur.refl w).alloc _
  have NB := bk_new w (.cells #[.int .i64 0, .float .f64 0, .string ⟨#[]⟩, .int .i64 0] 25)
  have C1 := hc.pur PA
  have AG := fun w' (hp : Pur (w.alloc (.cells #[.int .i64 0, .float .f64 0, .string ⟨#[]⟩, .int .i64 0] 25)) w') => arg_ok (C1.pur hp) 0 (by decide) (show 1 ≤ 1000 by decide)
  have TT := fun w' (hp : Pur (w.alloc (.cells #[.int .i64 0, .float .f64 0, .string ⟨#[]⟩, .int .i64 0] 25)) w') t => ctext_ok (C1.pur hp) t
  simp only [show argOf [tx p] 0 = tx p from rfl] at AG
  simp only [tx, Va.v, Va.cells, Int.natCast_zero] at AG TT
  replace AG : ∀ w', Pur (w.alloc (.cells #[.int .i64 0, .float .f64 0, .string ⟨#[]⟩, .int .i64 0] 25)) w' → Calls Tryz.prog 65 #[.pointer (some ⟨cb, 0, none⟩), .int .i64 0] w' fun e w'' => e = .returned (.agg #[.int .i64 4, .float .f64 0, .string ⟨p.toArray⟩, .int .i64 0]) ∧ Pur w' w'' := AG
  have WD := ewide_b [44] (by decide) (by decide) (hT.pur PA)
  have SH := fun t (ht : t.length ≤ 16000) w => cshort_ok (.pointer (some ⟨cb, 0, none⟩)) t ht w
  have TE := fun x w => etext_any x w
  have hfd := fd_kind
  simp only [tx, Va.v, Va.cells] at SH ⊢
  clear hv hc hT
  go_enter Tryz.func75, Tryz.ntmps75
  go_wp2_with fail
  generalize w.alloc (.cells #[.int .i64 0, .float .f64 0, .string ⟨#[]⟩, .int .i64 0] 25) = wA at *
  refine WD.mono ?_
  rintro e w0 ⟨rfl, p0⟩
  go_wp2_with fail
  refine (AG _ p0).mono ?_
  rintro e w1 ⟨rfl, p1⟩
  have P1 := p0.trans p1
  go_wp2_with fail
  refine (AG _ P1).mono ?_
  rintro e w2 ⟨rfl, p2⟩
  go_wp2_with fail
  refine (TT _ (P1.trans p2) p).mono ?_
  rintro e w3 ⟨rfl, p3⟩
  have P3 := (P1.trans p2).trans p3
  clear AG WD P1 p0 p1 p2 p3 C1
  go_wp2
  go_loopw [6, 20] (fun ov kv wr => ∃ k : Nat, k ≤ L.length ∧ kv = .int .i64 (k : Int) ∧ ov = .string ⟨(joinU p (L.take k)).toArray⟩ ∧ Pur wA wr) (fun _ kv _ => L.length + 1 - (intOf kv).toNat)
  case atStart => exact ⟨0, by omega, rfl, rfl, P3⟩
  case round =>
    obtain ⟨k, hk, rfl, rfl, hpr⟩ := hrel
    by_cases hlt : k < L.length
    · obtain ⟨x, hx⟩ : ∃ x, L[k]? = some x := ⟨_, List.getElem?_eq_getElem hlt⟩
      obtain ⟨bb, oo, hva, hbl, hcl⟩ := hve k (tx x) (tx_at L k x hx)
      subst hva
      have cl : ∀ (i : Nat) u, (tx x).cells[i]? = some u → wr.cell? ⟨bb, oo + k * 4 + i, none⟩ = some u := fun i u hu => ((PA.trans hpr).cell hbl).trans (hcl i u hu)
      have y0 := cl 0 _ rfl
      have y1 := cl 1 _ rfl
      have y2 := cl 2 _ rfl
      have y3 := cl 3 _ rfl
      rw [Nat.add_zero] at y0
      simp only [tx] at y0 y1 y2 y3
      have d1 : decide ((k : Int) < (L.length : Int)) = true := decide_eq_true (by omega)
      have d2 : (k : Int) < (L.length : Int) := by omega
      have d3 : (0 : Int) ≤ k := by omega
      have wk : IntKind.i64.wrap ((k : Int) + 1) = (k : Int) + 1 := IntWalk.i64_in _ (by omega)
      have hjk := hj k
      have hjk1 := hj (k + 1)
      have hxs := hs x (List.mem_of_getElem? hx)
      have hT1 : L.take (k + 1) = L.take k ++ [x] := by rw [List.take_add_one, hx]; rfl
      have NX := bk_new wr (.cells #[.int .i64 4, .float .f64 0, .string ⟨x.toArray⟩, .int .i64 0] 25)
      have PX : Pur wA (wr.alloc (.cells #[.int .i64 4, .float .f64 0, .string ⟨x.toArray⟩, .int .i64 0] 25)) := hpr.alloc _
      have q0 : ∀ z : PW (wr.alloc (.cells #[.int .i64 4, .float .f64 0, .string ⟨x.toArray⟩, .int .i64 0] 25)), z.to.cell? ⟨wr.heap.size, 0, none⟩ = some (.int .i64 4) := fun z => bk_cell (bk_pur NX z.pur) 0 _ rfl
      by_cases hk0 : k = 0
      · subst hk0
        have hJ : Hid (joinU p (L.take (0 + 1)) = x) := Lib.hid (by rw [hT1]; rfl)
        have d4 : decide ((0 : Int) < ((0 : Nat) : Int)) = false := by decide
        rw [List.take_zero] at hjk
        clear hjk1 hT1 hve cl hs hj
        simp only [List.take_zero, joinU]
        simp only [Nat.zero_mul, Nat.add_zero] at y0 y1 y2 y3
        go_wp2_with fail
        refine wp_region_pur (by kernel_rfl) (by kernel_rfl) ?_
        repeat (go_big_quiet_step (fail))
        refine wpQuiet_nil ?_
        intro wq hq
        have NQ := bk_pur NX hq
        have k0 := bk_cell NQ 0 _ rfl
        have k1 := bk_cell NQ 1 _ rfl
        have k2 := bk_cell NQ 2 _ rfl
        have k3 := bk_cell NQ 3 _ rfl
        have PQ := PX.trans hq
        clear NX NQ q0 y0 y1 y2 y3 PX hq
        go_wp2_with fail
        refine (TT _ PQ x).mono ?_
        rintro e w4 ⟨rfl, p4⟩
        have P4 := PQ.trans p4
        clear k0 k1 k2 k3 p4 PQ
        have z1 : ¬ 9223372036854775807 < x.length := by omega
        go_wp2_with fail
        refine (SH x (by omega) _).mono ?_
        rintro e w5 ⟨rfl, p5⟩
        have P5 := P4.trans p5
        clear SH TT P4 p5
        go_wp2
        go_roundw
        case rel => exact ⟨0 + 1, by omega, by go_num, by rw [hJ.out], P5⟩
        case measure => first | (simp [intOf]; done) | (simp [intOf]; omega)
      · have hJ : Hid (joinU p (L.take (k + 1)) = joinU p (L.take k) ++ (p ++ x)) := Lib.hid (by
          rw [hT1]
          refine joinU_snoc p x _ fun h => ?_
          have := congrArg List.length h
          rw [List.length_take, List.length_nil] at this
          omega)
        have hl1 : (joinU p (L.take k) ++ (p ++ x)).length ≤ 16000 := by rw [← hJ.out]; omega
        have d4 : decide ((0 : Int) < (k : Int)) = true := decide_eq_true (by omega)
        have d5 : 0 < k := by omega
        obtain ⟨o, ho⟩ : ∃ o, joinU p (L.take k) = o := ⟨_, rfl⟩
        rw [ho] at hJ hl1 hjk ⊢
        have z1 : ¬ 9223372036854775807 < o.length + p.length := by omega
        have z2 : ¬ 9223372036854775807 < (o ++ p).length + x.length := by rw [List.length_append]; omega
        have z3 : ¬ 9223372036854775807 < o.length + p.length + x.length := by omega
        clear hjk1 hT1 hve cl hs hj ho
        go_wp2_with fail
        refine wp_region_pur (by kernel_rfl) (by kernel_rfl) ?_
        repeat (go_big_quiet_step (fail))
        refine wpQuiet_nil ?_
        intro wq hq
        have NQ := bk_pur NX hq
        have k0 := bk_cell NQ 0 _ rfl
        have k1 := bk_cell NQ 1 _ rfl
        have k2 := bk_cell NQ 2 _ rfl
        have k3 := bk_cell NQ 3 _ rfl
        have PQ := PX.trans hq
        clear NX NQ q0 y0 y1 y2 y3 PX hq
        go_wp2_with fail
        refine (TT _ PQ x).mono ?_
        rintro e w4 ⟨rfl, p4⟩
        have P4 := PQ.trans p4
        clear k0 k1 k2 k3 p4 PQ
        go_wp2_with fail
        refine (SH _ hl1 _).mono ?_
        rintro e w5 ⟨rfl, p5⟩
        have P5 := P4.trans p5
        clear SH TT P4 p5
        go_wp2
        go_roundw
        case rel => exact ⟨k + 1, by omega, by go_num, by rw [hJ.out], P5⟩
        case measure => first | (simp [intOf]; done) | (simp [intOf]; omega)
    · obtain rfl : k = L.length := by omega
      have d1 : decide ((L.length : Int) < (L.length : Int)) = false := decide_eq_false (by omega)
      rw [List.take_length]
      obtain ⟨o, ho⟩ : ∃ o, joinU p L = o := ⟨_, rfl⟩
      rw [ho]
      have HO := Lib.hid ho
      clear ho
      clear hve hj TT SH
      go_wp2_with fail
      refine (TE _ _).mono ?_
      rintro e w4 ⟨rfl, p4⟩
      have P4 := hpr.trans p4
      have NB3 := bk_pur NB P4
      obtain ⟨⟨s0, s1⟩, ⟨s2, s3⟩, ⟨s4, s5⟩, ⟨s6, s7⟩⟩ := st4_steps (y := Va.zero) (x := tx o) NB3
      have R8 := st4_at (y := Va.zero) (x := tx o) NB3
      have P8 := st4_pur (b := w.heap.size) (x := tx o) (PA.trans P4) (Nat.le_refl _)
      have HF := Lib.hid (And.intro R8 P8)
      clear R8 P8 NB3 NB P4 p4 PA TE hpr P3
      simp only [st4, Va.zero, tx] at s0 s1 s2 s3 s4 s5 s6 s7 HF
      go_wp2
      refine bodyPost_ret (results_cell_row rfl _ _ w.heap.size 25 _ (0, 0) _ rfl HF.out.1 Tryz.underlying25 rfl (by kernel_rfl)) rfl ⟨by rw [HO.out]; rfl, HF.out.2⟩
end Li
end Go.Proofs.YtgdolcoiihagfaaGreatDoor
namespace Go.Proofs.YtgdolcoiihagfaaGreatDoor
open Go Go.RowKit
set_option linter.all false
namespace Li
theorem two_own (w : World) (cb : Nat) : ∃ W, W = (w.alloc (.cells #[.pointer (some ⟨cb, 0, none⟩)] 70)).alloc (.cells #[.int .i64 0, .float .f64 0, .string ⟨#[]⟩, .int .i64 0] 25) ∧ Pur w W ∧ W.heap.size = w.heap.size + 1 + 1 ∧
    W.heap[w.heap.size]? = some (.cells #[.pointer (some ⟨cb, 0, none⟩)] 70 (0, 0)) ∧ W.heap[w.heap.size + 1]? = some (.cells Va.zero.cells.toArray 25 (0, 0)) := by
  obtain ⟨Wa, hWa⟩ : ∃ Wa, Wa = w.alloc (.cells #[.pointer (some ⟨cb, 0, none⟩)] 70) := ⟨_, rfl⟩
  have sa : Wa.heap.size = w.heap.size + 1 := by rw [hWa]; exact Array.size_push _
  refine ⟨_, rfl, ((Pur.refl w).alloc _).alloc _, ?_, bk_alloc (bk_new w _) _, ?_⟩
  · rw [← hWa, ← sa]; exact Array.size_push _
  · rw [← hWa, ← sa]; exact bk_new Wa _
set_option maxRecDepth 100000 in
set_option maxHeartbeats 16000000 in
theorem arrays_join {w0 w : World} {hh G cb : Nat} {K : Nat → Prop} {d : Hd} {av : Value} (fl : Nat) (ft : List UInt8) (r : Int) (p : List UInt8) (L : List (List UInt8)) (h : At w0 hh G K w d) (hc : CB w cb hh ⟨5, fl, ft, r⟩ av [tx p]) (hT : UT w) (hit : d.items r = some (L.map tx)) (hn : L.length ≤ 10000) (hp : p.length ≤ 4000) (hj : ∀ k, (joinU p (L.take k)).length ≤ 8000) (hs : ∀ x ∈ L, x.length ≤ 8000) :
    Calls Tryz.prog 35 #[.pointer (some ⟨cb, 0, none⟩), .int .i64 53] w fun e w' => e = .returned (tx (joinU p L)).v ∧ At w0 hh G K w' d ∧ Kept K w w' := by
  obtain ⟨W, hW, PA, hsz, B0, NB⟩ := two_own w cb
  have hKl : ∀ b, K b → b < w.heap.size := fun b hb => by obtain ⟨s, -, -, -, -, h5⟩ := h.ex; exact (h5 b hb).1
  have hw0 := h.pur.size
  have A1 : At w0 hh G (fun b => K b ∨ b = w.heap.size + 1) W d := at_other h (Chg.of_pur (S := []) PA) (by intro b hb; cases hb) (by intro b hb; cases hb) (fun b hb => by
    rcases hb with hb | hb
    · exact ⟨.inl hb, by have := hKl b hb; omega⟩
    · exact ⟨.inr (by omega), by omega⟩)
  have K1 : Kept K w W := (h.pure PA).2
  have C1 := hc.pur PA
  have l0 := bk_cell B0 0 _ rfl
  have c0 := bk_cell C1.own 0 _ rfl
  have c4 : W.cell? ⟨cb, 4, none⟩ = some (.int .i64 r) := bk_cell C1.own 4 _ rfl
  have IT := items_st A1 r
  rw [hit] at IT
  simp only [Option.isSome_some, Option.getD_some, List.length_map] at IT
  obtain ⟨y, hy⟩ : ∃ y, joinU p L = y := ⟨_, rfl⟩
  have CJ := fun w' vv (hp' : Pur W w') (hv : VRead w' vv (L.map tx)) => cjoin_ok p L vv (C1.pur hp') hv ((hT.pur PA).pur hp') hn hp hj hs
  rw [hy] at CJ
  simp only [tx, Va.v, Va.cells] at CJ
  clear h hc hit hj hs
  rw [hy]
  clear hy
  simp only [tx, Va.v, Va.cells]
  subst hW
  go_enter Tryz.func35, Tryz.ntmps35
  go_wp2_with fail
  generalize (w.alloc (.cells #[.pointer (some ⟨cb, 0, none⟩)] 70)).alloc (.cells #[.int .i64 0, .float .f64 0, .string ⟨#[]⟩, .int .i64 0] 25) = W at *
  refine IT.mono ?_
  rintro e w1 ⟨lv, rfl, p1, hrow⟩
  obtain ⟨la, lc, rfl⟩ := row_shape hrow
  have CJ1 := CJ w1 _ p1 (VRead.of_own (by rw [List.length_map]; exact hrow))
  have l1 := bk_cell (bk_pur B0 p1) 0 _ rfl
  clear IT CJ hrow l0 c0 c4
  go_wp2_with fail
  refine CJ1.mono ?_
  rintro e w2 ⟨rfl, p2⟩
  have P9 := p1.trans p2
  obtain ⟨A9, K9⟩ := A1.pure P9
  have NB9 := bk_pur NB P9
  obtain ⟨⟨s0, s1⟩, ⟨s2, s3⟩, ⟨s4, s5⟩, ⟨s6, s7⟩⟩ := st4_steps (y := Va.zero) (x := tx y) NB9
  have R8 := st4_at (y := Va.zero) (x := tx y) NB9
  obtain ⟨A10, K10⟩ := st4_fin (x := tx y) (K := K) A9 (.inr rfl) (by omega) (fun k hk => ⟨.inl hk, by have := hKl k hk; omega⟩)
  have HF := Lib.hid (And.intro R8 (And.intro A10 ((K1.trans fun b hb => K9 b (.inl hb)).trans K10)))
  clear R8 A10 K10 A9 K9 NB9 NB CJ1 P9 p1 p2 A1 K1 C1 l1 B0 PA
  simp only [st4, Va.zero, tx] at s0 s1 s2 s3 s4 s5 s6 s7 HF
  go_wp2
  refine bodyPost_ret (results_cell_row rfl _ _ (w.heap.size + 1) 25 _ (0, 0) _ rfl HF.out.1 Tryz.underlying25 rfl (by kernel_rfl)) rfl ⟨rfl, HF.out.2⟩
def sD0 : Hd := ⟨10000, []⟩
theorem split_new (l : List Va) (hl : l.length ≤ 4000) (hr : ∀ v ∈ l, v.right 0 = true) : sD0.array l = ((0, 0), ⟨10000 - (1 + l.length), [obA l]⟩) := by
  unfold Hd.array sD0
  rw [if_pos (show l.all (Va.right (Hd.mk 10000 []).xs.length) = true from List.all_eq_true.2 fun v hv => hr v hv)]
  unfold Hd.add
  rw [if_neg (by simp only; omega)]
  rfl
theorem tx_right (t : List UInt8) (h : t.length % 2 = 0) : (tx t).right 0 = true := by
  have e : sameB 0 0 = true := by decide +kernel
  unfold Va.right tx
  simp only
  rw [if_neg (by decide), if_neg (by decide), if_neg (by decide), if_pos trivial, e]
  simp
  omega
theorem split_even (l p : List UInt8) (hl : l.length % 2 = 0) : ∀ f i, ∀ y ∈ splitU l p f i, y.length % 2 = 0
  | 0, i => by intro y hy; simp [splitU] at hy; subst hy; rw [length_sub]; omega
  | f + 1, i => by
    intro y hy
    rw [splitU] at hy
    split at hy
    · simp at hy; subst hy; rw [length_sub]; omega
    · rcases List.mem_cons.1 hy with rfl | hy
      · rw [length_sub]; omega
      · exact split_even l p hl f _ y hy
theorem joinU_take (p : List UInt8) : ∀ (L : List (List UInt8)) (k : Nat), (joinU p (L.take k)).length ≤ (joinU p L).length
  | [], k => by simp
  | [a], k => by
    match k with
    | 0 => simp [joinU]
    | k + 1 => simp
  | a :: b :: r, k => by
    match k with
    | 0 => simp [joinU]
    | 1 => simp [joinU]
    | k + 2 =>
      have ih := joinU_take p (b :: r) (k + 1)
      simp only [List.take_succ_cons] at ih ⊢
      rw [joinU, joinU]
      simp only [List.length_append]
      omega
end Li
end Go.Proofs.YtgdolcoiihagfaaGreatDoor
namespace Go.Proofs.YtgdolcoiihagfaaGreatDoor
open Go Go.RowKit
set_option linter.all false
namespace Li
set_option maxRecDepth 100000 in
set_option maxHeartbeats 64000000 in
theorem split_law (l p : List UInt8) (hl1 : l.length ≤ 1000000000) (hp1 : p.length ≤ 1000000000) (w : World) (hW : LB w) :
    Calls Tryz.prog 4 #[.string ⟨l.toArray⟩, .string ⟨p.toArray⟩] w fun e w' => e = .returned (.bool true) ∧ Pur w w' := by
  have AW := awake_any hW
  have NW := fun w => new_st 10000 w
  rw [show cellsOf 10000 = 10000 by decide, show Hd.new 10000 = sD0 by unfold Hd.new sD0; rw [show cellsOf 10000 = 10000 by decide]; rfl] at NW
  have tl : Int.tmod (l.length : Int) 2 = ((l.length % 2 : Nat) : Int) := by rw [Int.tmod_eq_emod_of_nonneg (by omega)]; omega
  have tp : Int.tmod (p.length : Int) 2 = ((p.length % 2 : Nat) : Int) := by rw [Int.tmod_eq_emod_of_nonneg (by omega)]; omega
  have hb : l.length % 2 < 2 := Nat.mod_lt _ (by decide)
  have hb2 : p.length % 2 < 2 := Nat.mod_lt _ (by decide)
  obtain ⟨ml, hml⟩ : ∃ m, l.length % 2 = m := ⟨_, rfl⟩
  obtain ⟨mp, hmp⟩ : ∃ m, p.length % 2 = m := ⟨_, rfl⟩
  rw [hml] at tl hb
  rw [hmp] at tp hb2
  go_enter Tryz.func4, Tryz.ntmps4
  go_wp2_with fail
  refine AW.mono ?_
  rintro e w1 ⟨rfl, h1⟩
  clear AW
  go_upto_region 3 with (fail)
  go_cut [37] from 13 to 37 (fun v wx => ∃ q, v = .bool q ∧ wx = w1 ∧ (q = false → ml = 0 ∧ mp = 0 ∧ 0 < p.length ∧ l.length ≤ 4000 ∧ p.length ≤ 4000))
  case first =>
    clear NW hW
    by_cases c1 : ml = 0
    · subst c1
      by_cases c2 : mp = 0
      · subst c2
        by_cases c3 : p.length = 0
        · have d3 : decide ((p.length : Int) = 0) = true := decide_eq_true (by omega)
          have d3' : ((p.length : Int) == 0) = true := by rw [c3]; rfl
          clear hml hmp c3
          go_wp2
          go_meet
          exact ⟨true, by first | rfl | simp, by first | rfl | trivial, fun h => by cases h⟩
        · have d3 : decide ((p.length : Int) = 0) = false := decide_eq_false (by omega)
          have d3' : ((p.length : Int) == 0) = false := beq_eq_false_iff_ne.2 (by omega)
          by_cases c4 : 4000 < l.length
          · have d4 : decide ((4000 : Int) < (l.length : Int)) = true := decide_eq_true (by omega)
            clear hml hmp
            go_wp2
            go_meet
            exact ⟨true, by first | rfl | simp, by first | rfl | trivial, fun h => by cases h⟩
          · have d4 : decide ((4000 : Int) < (l.length : Int)) = false := decide_eq_false (by omega)
            obtain ⟨q, hq⟩ : ∃ q, decide ((4000 : Int) < (p.length : Int)) = q := ⟨_, rfl⟩
            have hq2 : q = false → p.length ≤ 4000 := fun h => by rw [h] at hq; have := of_decide_eq_false hq; omega
            clear hml hmp
            go_wp2
            go_meet
            exact ⟨q, by first | rfl | simp, by first | rfl | trivial, fun h => ⟨by first | rfl | trivial, by first | rfl | trivial, by omega, by omega, hq2 h⟩⟩
      · have c2' : ¬ ((mp : Int) = 0) := by omega
        have c2'' : ((mp : Int) == 0) = false := beq_eq_false_iff_ne.2 c2'
        clear hml hmp
        go_wp2
        go_meet
        exact ⟨true, by first | rfl | simp, by first | rfl | trivial, fun h => by cases h⟩
    · have c1' : ¬ ((ml : Int) = 0) := by omega
      have c1'' : ((ml : Int) == 0) = false := beq_eq_false_iff_ne.2 c1'
      clear hml hmp
      go_wp2
      go_meet
      exact ⟨true, by first | rfl | simp, by first | rfl | trivial, fun h => by cases h⟩
  case rest =>
    obtain ⟨q, rfl, rfl, hq⟩ := hcut
    cases q with
    | true =>
      clear hq NW hml hmp
      go_wp2
      go_ret
      exact ⟨rfl, h1⟩
    | false =>
      obtain ⟨rfl, rfl, hp0, hl4, hp4⟩ := hq rfl
      have hjs := join_split l p hml hmp hp0 (l.length / 2 + 1) 0 (by omega) (by omega)
      rw [Nat.mul_zero, sub_full] at hjs
      have hsl := split_len l p (by omega) (l.length / 2 + 1) 0
      obtain ⟨L, hL⟩ : ∃ L, splitU l p (l.length / 2 + 1) 0 = L := ⟨_, rfl⟩
      have hLe : ∀ y ∈ L, y.length % 2 = 0 := by rw [← hL]; exact split_even l p hml _ _
      have hLs : ∀ y ∈ L, y.length ≤ 8000 := by
        intro y hy
        rw [← hL] at hy
        have := split_small l p _ _ y hy
        omega
      have hd := split_new (L.map tx) (by rw [List.length_map, ← hL]; omega) (by
        intro v hv
        obtain ⟨y, hy, rfl⟩ := List.mem_map.1 hv
        exact tx_right y (hLe y hy))
      rw [List.length_map] at hd
      rw [hL] at hjs hsl
      obtain ⟨dA, hdA⟩ : ∃ dA : Hd, dA = ⟨10000 - (1 + (L.length : Int)), [obA (L.map tx)]⟩ := ⟨_, rfl⟩
      rw [← hdA] at hd
      have hit : dA.items 0 = some (L.map tx) := by rw [hdA]; rfl
      have hia : isArr dA (ob 0) = true := by rw [hdA]; rfl
      have hj : ∀ k, (joinU p (L.take k)).length ≤ 8000 := fun k => by
        have := joinU_take p L k
        rw [hjs] at this
        omega
      clear hdA tl tp hLe
      have HJ := Lib.hid hjs
      have HL := Lib.hid hL
      clear hjs hL
      go_wp2_with fail
      refine (NW _).mono ?_
      rintro e w2 ⟨hh, rfl, A2⟩
      clear NW
      have X0 := bk_new w2 (.cells #[.int .i64 4, .float .f64 0, .string ⟨p.toArray⟩, .int .i64 0] 25)
      have PX : Pur w2 (w2.alloc (.cells #[.int .i64 4, .float .f64 0, .string ⟨p.toArray⟩, .int .i64 0] 25)) := (Pur.refl w2).alloc _
      have A3 := A2.keep PX w2.heap.size (Nat.le_refl _) (bk_lt X0)
      obtain ⟨W3, hW3⟩ : ∃ W3, W3 = w2.alloc (.cells #[.int .i64 4, .float .f64 0, .string ⟨p.toArray⟩, .int .i64 0] 25) := ⟨_, rfl⟩
      rw [← hW3] at A3 X0
      have X1 := bk_new W3 (.cells #[.int .i64 4, .float .f64 0, .string ⟨p.toArray⟩, .int .i64 0] 25)
      have PX1 : Pur W3 (W3.alloc (.cells #[.int .i64 4, .float .f64 0, .string ⟨p.toArray⟩, .int .i64 0] 25)) := (Pur.refl W3).alloc _
      have A4 := A3.keep PX1 W3.heap.size (Nat.le_refl _) (bk_lt X1)
      have X0' := bk_pur X0 PX1
      have CS := call_split (av := .slice (some ⟨W3.heap.size, 0, none⟩) 1 1) 0 0 l p 0 A4 (.inr ⟨W3.heap.size, 1, (0, 0), rfl, X1⟩) (fun b hb => by simp [Value.ownBlock] at hb; exact .inr hb.symm) hl4 hp4 hml hmp hp0 (by rw [HL.out]; exact hd)
      simp only [ob, Va.v, Va.cells] at CS
      have m0 := bk_cell X0 0 _ rfl
      have m1 := bk_cell X0 1 _ rfl
      have m2 := bk_cell X0 2 _ rfl
      have m3 := bk_cell X0 3 _ rfl
      obtain ⟨bb, hbb⟩ : ∃ bb, w2.heap.size = bb := ⟨_, rfl⟩
      have hs3 : W3.heap.size = w2.heap.size + 1 := by rw [hW3]; exact Array.size_push _
      rw [hs3] at CS
      rw [hbb] at m0 m1 m2 m3 CS A4 X0'
      clear hs3
      subst hW3
      clear A2 A3 X0 PX X1 PX1 hd
      go_wp2_with fail
      refine CS.mono ?_
      rintro e w5 ⟨rfl, A5, K5⟩
      have X5 := (K5 _ (.inl (.inr rfl))).trans X0'
      replace A5 := A5.sub (K' := fun b => b = bb) (fun b hb => .inl (.inr hb))
      clear CS A4 K5 X0' m0 m1 m2 m3
      have Y5 := bk_new w5 (.cells #[.int .i64 5, .float .f64 0, .string ⟨#[]⟩, .int .i64 0] 25)
      have PY : Pur w5 (w5.alloc (.cells #[.int .i64 5, .float .f64 0, .string ⟨#[]⟩, .int .i64 0] 25)) := (Pur.refl w5).alloc _
      have A6 := (A5.pure PY).1
      have X6 := bk_pur X5 PY
      obtain ⟨W6, hW6⟩ : ∃ W6, W6 = w5.alloc (.cells #[.int .i64 5, .float .f64 0, .string ⟨#[]⟩, .int .i64 0] 25) := ⟨_, rfl⟩
      rw [← hW6] at A6 X6 Y5
      have Z6 := bk_new W6 (.cells #[.int .i64 4, .float .f64 0, .string ⟨p.toArray⟩, .int .i64 0] 25)
      have PZ : Pur W6 (W6.alloc (.cells #[.int .i64 4, .float .f64 0, .string ⟨p.toArray⟩, .int .i64 0] 25)) := (Pur.refl W6).alloc _
      have A7 := A6.keep PZ W6.heap.size (Nat.le_refl _) (bk_lt Z6)
      have hW7 := (hW.pur h1).pur A7.pur
      have CA := call_arrays (v := ob 0) (av := .slice (some ⟨W6.heap.size, 0, none⟩) 1 1) (vs := [tx p]) A7 (.inr ⟨W6.heap.size, 1, (0, 0), rfl, Z6⟩) (fun b hb => by simp [Value.ownBlock] at hb; exact .inr hb.symm) 53 (tx (joinU p L)) (by decide) (by decide) hia (fun K' W cb hcb hka hA hC hp => arrays_join 0 [] 0 p L hA hC (hW7.pur hp).ut hit (by omega) hp4 hj hLs)
      rw [HJ.out] at CA
      simp only [ob, tx, Va.v, Va.cells] at CA
      have m0 := bk_cell X6 0 _ rfl
      have m1 := bk_cell X6 1 _ rfl
      have m2 := bk_cell X6 2 _ rfl
      have m3 := bk_cell X6 3 _ rfl
      have n0 := bk_cell Y5 0 _ rfl
      have n1 := bk_cell Y5 1 _ rfl
      have n2 := bk_cell Y5 2 _ rfl
      have n3 := bk_cell Y5 3 _ rfl
      have hs6 : W6.heap.size = w5.heap.size + 1 := by rw [hW6]; exact Array.size_push _
      rw [hs6] at CA
      clear hs6
      subst hW6
      clear A5 A6 X5 X6 Y5 PY Z6 PZ hW7 A7 hj hLs hit hia
      go_wp2_with fail
      refine CA.mono ?_
      rintro e w8 ⟨rfl, A8, -⟩
      have P8 := h1.trans A8.pur
      have S8 := bk_new w8 (.cells #[.int .i64 4, .float .f64 0, .string ⟨l.toArray⟩, .int .i64 0] 25)
      have PF := P8.alloc (.cells #[.int .i64 4, .float .f64 0, .string ⟨l.toArray⟩, .int .i64 0] 25)
      have s0 := bk_cell S8 0 _ rfl
      have s2 := bk_cell S8 2 _ rfl
      clear CA A8 m0 m1 m2 m3 n0 n1 n2 n3 S8 P8
      go_wp2
      go_ret
      exact ⟨by simp, PF⟩
end Li
end Go.Proofs.YtgdolcoiihagfaaGreatDoor
