/- Layer 9: a number's number, a text's; types; what the laws say of themselves. Layer 9: awake. Layer 9: what the document says of a right value; the same in plain words. -/
import Derived.Test.YtapgibcdbggpkaaGreatDoorCvD
import Derived.Test.YtapgibcdbggpkaaGreatDoorFtE
namespace Go.Proofs.YtapgibcdbggpkaaGreatDoor
open Go Go.RowKit
set_option linter.all false
open Lx (w16)
namespace Cv
open P10
set_option maxRecDepth 100000 in
set_option maxHeartbeats 4000000 in
theorem number_text {w : World} {s : Hs} {G : Nat} (t : List UInt8) {x : Nat} (h : HW w s G) (ht : t.length ≤ 1000000000)
    (NT : ∀ w', CW w' → Calls Tryz.prog 42 #[.string ⟨t.toArray⟩] w' fun e w'' => e = .returned (.float .f64 x) ∧ Pur w' w'') :
    Calls Tryz.prog 17 #[.pointer (some ⟨s.h, 0, none⟩), (textV t).v] w fun e w' => e = .returned (.tuple #[.float .f64 x, .int .i64 0]) ∧ Pur w w' := by
  have TE := fun w1 (hp : Pur w w1) => text_any (textV t) (h.pur hp) ⟨show (0 : Nat) < 18446744073709551616 by decide, ht⟩
  rw [show tv (text TX s.d (textV t)) = .tuple #[.string ⟨t.toArray⟩, .int .i64 0] from rfl] at TE
  simp only [textV, Va.v, Va.cells] at TE ⊢
  have P := (Pur.refl w).alloc (.cells #[.int .i64 4, .float .f64 0, .string ⟨t.toArray⟩, .int .i64 0] 25)
  have T1 := TE _ P
  have hc := h.cw.pur P
  clear TE h
  go_enter Tryz.func17, Tryz.ntmps17
  go_wp2_with fail
  refine T1.mono ?_
  rintro e w1 ⟨rfl, h1⟩
  have N1 := NT _ (hc.pur h1)
  clear T1 NT hc
  go_wp2_with fail
  refine N1.mono ?_
  rintro e w2 ⟨rfl, h2⟩
  go_wp2
  refine bodyPost_ret (v := .tuple #[.float .f64 x, .int .i64 0]) (by simp [results, Tryz.results17, go_sem]) rfl ⟨rfl, (P.trans h1).trans h2⟩
set_option maxRecDepth 100000 in
theorem type_arr {w : World} {s : Hs} (n : Nat) (t : List UInt8) (r : Int) (h : HpAt w s) (hk : s.d.kind r = 2) : Calls Tryz.prog 20 #[.pointer (some ⟨s.h, 0, none⟩), (Va.mk 5 n t r).v] w fun e w' => e = .returned (.string ⟨#[111, 98, 106, 101, 99, 116]⟩) ∧ Pur w w' := by
  simp only [Va.v, Va.cells]
  have P := (Pur.refl w).alloc (.cells #[.int .i64 5, .float .f64 n, .string ⟨t.toArray⟩, .int .i64 r] 25)
  have K := kind_any s r _ (h.pur P)
  rw [hk] at K
  clear h hk
  go_enter Tryz.func20, Tryz.ntmps20
  go_wp2_with fail
  go_wp2_with fail
  refine (K).mono ?_
  rintro e w1 ⟨rfl, rfl⟩
  go_wp2
  go_ret
  exact ⟨rfl, P⟩
theorem lnum_any (x : Nat) (w : World) : Calls Tryz.prog 13 #[.float .f64 x] w fun e w' => e = .returned (.agg #[.int .i64 3, .float .f64 x, .string ⟨#[]⟩, .int .i64 0]) ∧ Pur w w' := by
  go_enter Tryz.func13, Tryz.ntmps13
  go_wp2_with fail
  refine bodyPost_ret (v := .agg #[.int .i64 3, .float .f64 x, .string ⟨#[]⟩, .int .i64 0]) (by simp [results, Tryz.results13, go_sem]) rfl ⟨rfl, ?_⟩
  repeat (first | exact Pur.refl _ | with_reducible refine Pur.setCell ?_ (Nat.le_refl _) _ | with_reducible refine Pur.alloc ?_ _)
theorem ltext_any (l : List UInt8) (hl : l.length ≤ 1000000) (w : World) : Calls Tryz.prog 15 #[.string ⟨l.toArray⟩] w fun e w' => e = .returned (.agg #[.int .i64 4, .float .f64 0, .string ⟨(wide8 l).toArray⟩, .int .i64 0]) ∧ Pur w w' := by
  have O := fun w => Ft.of_any l w hl
  rw [show w16 l = wide8 l from rfl] at O
  have P := (Pur.refl w).alloc (.cells #[.int .i64 0, .float .f64 0, .string ⟨#[]⟩, .int .i64 0] 25)
  have B := bk_new w (.cells #[.int .i64 0, .float .f64 0, .string ⟨#[]⟩, .int .i64 0] 25)
  go_enter Tryz.func15, Tryz.ntmps15
  go_wp2_with fail
  refine (O _).mono ?_
  rintro e w1 ⟨rfl, h1⟩
  have E := bk_pur B h1
  have s0 := bk_cell E 0 _ rfl
  have s1 := bk_cell E 1 _ rfl
  have s2 := bk_cell E 2 _ rfl
  have s3 := bk_cell E 3 _ rfl
  have f0 := bk_free E 0
  have f1 := bk_free E 1
  have f2 := bk_free E 2
  have f3 := bk_free E 3
  have PZ := P.trans h1
  clear O P B E h1
  go_wp2
  refine bodyPost_ret (v := .agg #[.int .i64 4, .float .f64 0, .string ⟨(wide8 l).toArray⟩, .int .i64 0]) (by simp [results, Tryz.results15, go_sem, s0, s1, s2, s3]) rfl ⟨rfl, ?_⟩
  repeat (first | with_reducible exact PZ | with_reducible refine Pur.setCell ?_ (Nat.le_refl _) _)
theorem n7 {w : World} (h : CW w) : Calls Tryz.prog 42 #[.string ⟨(wide8 [32, 55, 32]).toArray⟩] w fun e w' => e = .returned (.float .f64 4619567317775286272) ∧ Pur w w' :=
  Nm.number_dec (s := [55]) (by decide) (by decide +kernel) (by decide +kernel) (Us.dec_int (m := 7) (by decide +kernel) (by decide) (by decide) (by decide +kernel) (by decide +kernel) (by decide +kernel)) h.k.n
def awI : List Va := [Va.num' 4607182418800017408, ⟨1, 0, [], 0⟩, Va.num' 4611686018427387904]
def awD : Hd := ⟨16, [Ob.fresh 2 (-1) 0 0 0 awI]⟩
theorem aw_new : Hd.new 20 = ⟨20, []⟩ := by
  unfold Hd.new cellsOf
  rw [show (((min (max (20 : Int) 0) 10000).toNat : Nat) : Int) = 20 by decide]
theorem aw_arr : (Hd.mk 20 []).array awI = ((0, 0), awD) := by
  have h : awI.all (Va.right 0) = true := by decide +kernel
  unfold Hd.array
  simp only [List.length_nil]
  rw [if_pos h]
  rfl
theorem tx_small (z : Nat) (h : z < 1000) : TX (floatOfInt .f64 (z : Int)) = Lib.decDigits z := by
  have := Ft.txt_whole (z : Int) (by omega)
  unfold TX
  rw [this]
  unfold Ft.zT
  rw [if_neg (by omega)]
  simp
theorem tx_1 : TX 4607182418800017408 = [49] := by
  have h := tx_small 1 (by decide)
  rw [show floatOfInt .f64 ((1 : Nat) : Int) = 4607182418800017408 by kernel_rfl] at h
  rw [h]
  decide +kernel
theorem tx_2 : TX 4611686018427387904 = [50] := by
  have h := tx_small 2 (by decide)
  rw [show floatOfInt .f64 ((2 : Nat) : Int) = 4611686018427387904 by kernel_rfl] at h
  rw [h]
  decide +kernel
theorem aw_text : text TX awD ⟨5, 0, [], 0⟩ = some (wide8 [49, 44, 44, 50]) := by
  have e1 : tellV TX awD (arrT TX awD 1 [0]) (Va.num' 4607182418800017408) = some (wide8 [49]) := by
    show some (wide8 (TX 4607182418800017408)) = _
    rw [tx_1]
  have e2 : tellV TX awD (arrT TX awD 1 [0]) (Va.num' 4611686018427387904) = some (wide8 [50]) := by
    show some (wide8 (TX 4611686018427387904)) = _
    rw [tx_2]
  show arrT TX awD 2 [] 0 = _
  rw [arrT, if_neg (by simp)]
  show joinL (tellV TX awD (arrT TX awD 1 [0])) awI true [] = _
  unfold awI
  simp only [joinL, e1, e2]
  decide
end Cv
end Go.Proofs.YtapgibcdbggpkaaGreatDoor
namespace Go.Proofs.YtapgibcdbggpkaaGreatDoor
open Go Go.RowKit
set_option linter.all false
open Lx (w16)
namespace Cv
open P10
/-- a heap of a law's own, as layer 9 wants it -/
theorem At.hw {w0 w : World} {hh G : Nat} {K : Nat → Prop} {d : Hd} (h : Go.Proofs.YtapgibcdbggpkaaGreatDoor.At w0 hh G K w d) (hc : CW w0) (hwf : ∀ x ∈ d.xs, ∀ v ∈ x.items, v.wf) : ∃ s : Hs, HW w s G ∧ s.h = hh ∧ s.d = d := by
  obtain ⟨s, h1, h2, h3, h4, h5⟩ := h.ex
  exact ⟨s, ⟨h1, by rw [h3]; exact h.ok, by rw [h3]; exact hwf, hc.pur h.pur⟩, h2, h3⟩
theorem wf_num (x : Nat) (hx : x < 18446744073709551616) : (Va.num' x).wf := ⟨hx, by simp [Va.num']⟩
theorem wf_text (t : List UInt8) (ht : t.length ≤ 1000000000) : (textV t).wf := ⟨show (0 : Nat) < 18446744073709551616 by decide, ht⟩
theorem wf_obj (r : Int) : (Va.mk 5 0 [] r).wf := ⟨show (0 : Nat) < 18446744073709551616 by decide, by simp⟩
theorem awI_wf : ∀ x ∈ awI, x.wf := by
  intro x hx
  simp only [awI, List.mem_cons, List.not_mem_nil, or_false] at hx
  rcases hx with rfl | rfl | rfl
  · exact wf_num _ (by decide)
  · exact ⟨show (0 : Nat) < 18446744073709551616 by decide, by simp⟩
  · exact wf_num _ (by decide)
theorem awD_wf : ∀ x ∈ awD.xs, ∀ v ∈ x.items, v.wf := by
  intro x hx v hv
  simp only [awD, List.mem_singleton] at hx
  subst hx
  exact awI_wf v hv
theorem aw_loose (p q : Nat) : looseG (textV (wide8 [49, 44, 44, 50])) ⟨5, 0, [], 0⟩ (prim TX awD (textV (wide8 [49, 44, 44, 50]))) (prim TX awD ⟨5, 0, [], 0⟩) p q = some true := by
  have h1 : prim TX awD (textV (wide8 [49, 44, 44, 50])) = some (textV (wide8 [49, 44, 44, 50])) := rfl
  have h2 : prim TX awD ⟨5, 0, [], 0⟩ = some (textV (wide8 [49, 44, 44, 50])) := by
    show (text TX awD ⟨5, 0, [], 0⟩).map textV = _
    rw [aw_text]; rfl
  rw [h1, h2]
  rfl
theorem aw_less (p q : Nat) : lessG (prim TX awD (textV (wide8 [49, 48]))) (prim TX awD (textV (wide8 [57]))) p q = some 1 := by
  have h1 : prim TX awD (textV (wide8 [49, 48])) = some (textV (wide8 [49, 48])) := rfl
  have h2 : prim TX awD (textV (wide8 [57])) = some (textV (wide8 [57])) := rfl
  rw [h1, h2]
  rfl
theorem aw_add {p q : Nat} {v : Va} {n : Int} (h : addG awD (prim TX awD (Va.num' 4607182418800017408)) (prim TX awD (textV (wide8 [97]))) p q v n) : v = textV (wide8 [49, 97]) ∧ n = 0 := by
  have h1 : prim TX awD (Va.num' 4607182418800017408) = some (Va.num' 4607182418800017408) := rfl
  have h2 : prim TX awD (textV (wide8 [97])) = some (textV (wide8 [97])) := rfl
  rw [h1, h2] at h
  have t1 : tX awD (Va.num' 4607182418800017408) = wide8 [49] := by
    show wide8 (TX 4607182418800017408) = _
    rw [tx_1]
  have t2 : tX awD (textV (wide8 [97])) = wide8 [97] := rfl
  have h3 : addP awD (Va.num' 4607182418800017408) (textV (wide8 [97])) p q v n := h
  unfold addP at h3
  rw [if_pos (.inr rfl), t1, t2, if_neg (by decide)] at h3
  exact h3
set_option maxRecDepth 100000 in
set_option maxHeartbeats 32000000 in
theorem awake_any {w : World} (hW : CW w) : Calls Tryz.prog 4 #[] w fun e w' => e = .returned (.bool true) ∧ Pur w w' := by
  have N20 := new_st 20 w
  rw [aw_new] at N20
  have m1 := fun w => lnum_any 4607182418800017408 w
  have m2 := fun w => lnum_any 4611686018427387904 w
  have m0 := fun w => lnum_any 0 w
  have t1 := fun w => ltext_any [49, 44, 44, 50] (by decide) w
  have t2 := fun w => ltext_any [49, 48] (by decide) w
  have t3 := fun w => ltext_any [57] (by decide) w
  have t4 := fun w => ltext_any [97] (by decide) w
  have t5 := fun w => ltext_any [32, 55, 32] (by decide) w
  have t6 := fun w => ltext_any [49] (by decide) w
  have o1 := fun w => Ft.of_any [49, 44, 44, 50] w (by decide)
  rw [show w16 [49, 44, 44, 50] = [0, 49, 0, 44, 0, 44, 0, 50] from rfl] at o1
  have o2 := fun w => Ft.of_any [49, 97] w (by decide)
  rw [show w16 [49, 97] = wide8 [49, 97] from rfl] at o2
  have wf1 := awI_wf
  go_enter Tryz.func4, Tryz.ntmps4
  go_wp2_with fail
  refine N20.mono ?_
  rintro e w1 ⟨hh, rfl, A1⟩
  clear N20
  go_wp2_with fail
  refine (m1 _).mono ?_
  rintro e w2 ⟨rfl, h2⟩
  go_wp2_with fail
  refine (m2 _).mono ?_
  rintro e w3 ⟨rfl, h3⟩
  have A3 := (A1.pure ((h2.trans h3).alloc (.cells #[.int .i64 3, .float .f64 4607182418800017408, .string ⟨#[]⟩, .int .i64 0, .int .i64 1, .float .f64 0, .string ⟨#[]⟩, .int .i64 0, .int .i64 3, .float .f64 4611686018427387904, .string ⟨#[]⟩, .int .i64 0] 25))).1
  have R3 := array_st A3 _ awI (vread_new w3 _ _ _ rfl) wf1 (by decide)
  rw [aw_arr] at R3
  clear A1 h2 h3 A3
  go_wp2_with fail
  refine R3.mono ?_
  rintro e w4 ⟨rfl, A4, -⟩
  clear R3
  obtain ⟨s, H4, hs, hd⟩ := At.hw A4 hW awD_wf
  have PP := A4.pur
  subst hs
  clear A4 wf1
  have P5 := (Pur.refl w4).alloc (.cells #[.int .i64 5, .float .f64 0, .string ⟨#[]⟩, .int .i64 0] 25)
  have B5 := bk_new w4 (.cells #[.int .i64 5, .float .f64 0, .string ⟨#[]⟩, .int .i64 0] 25)
  have c0 := bk_cell B5 0 _ rfl
  have c1 := bk_cell B5 1 _ rfl
  have c2 := bk_cell B5 2 _ rfl
  have c3 := bk_cell B5 3 _ rfl
  have T6 := text_any ⟨5, 0, [], 0⟩ (H4.pur P5) (wf_obj 0)
  rw [hd, aw_text, show tv (some (wide8 [49, 44, 44, 50])) = .tuple #[.string ⟨#[0, 49, 0, 44, 0, 44, 0, 50]⟩, .int .i64 0] from rfl] at T6
  have LO := fun (w : World) (hp : Pur w4 w) => loose_any (textV (wide8 [49, 44, 44, 50])) ⟨5, 0, [], 0⟩ (H4.pur hp) (wf_text _ (by decide)) (wf_obj 0) (p := 0) (q := 0) (fun x y hx hy hb => by
    rw [hd] at hx hy
    have h2 : prim TX awD ⟨5, 0, [], 0⟩ = some (textV (wide8 [49, 44, 44, 50])) := by
      show (text TX awD ⟨5, 0, [], 0⟩).map textV = _
      rw [aw_text]; rfl
    rw [h2] at hy
    rw [show prim TX awD (textV (wide8 [49, 44, 44, 50])) = some (textV (wide8 [49, 44, 44, 50])) from rfl] at hx
    cases hx
    cases hy
    cases hb)
  simp only [hd, aw_loose, show rb (some true) = .tuple #[.bool true, .int .i64 0] from rfl] at LO
  have LE := fun (w : World) (hp : Pur w4 w) => less_any (textV (wide8 [49, 48])) (textV (wide8 [57])) (H4.pur hp) (wf_text _ (by decide)) (wf_text _ (by decide)) (p := 0) (q := 0) (fun x y hx hy hb => by
    rw [hd] at hx hy
    rw [show prim TX awD (textV (wide8 [49, 48])) = some (textV (wide8 [49, 48])) from rfl] at hx
    rw [show prim TX awD (textV (wide8 [57])) = some (textV (wide8 [57])) from rfl] at hy
    cases hx
    cases hy
    cases hb)
  simp only [hd, aw_less, show ri (some 1) = .tuple #[.int .i64 1, .int .i64 0] from rfl] at LE
  have AD := fun (w : World) (hp : Pur w4 w) => add_any (Va.num' 4607182418800017408) (textV (wide8 [97])) (H4.pur hp) (wf_num _ (by decide)) (wf_text _ (by decide)) (p := 0) (q := 0) (fun x y hx hy => by
    rw [hd] at hx hy
    rw [show prim TX awD (textV (wide8 [97])) = some (textV (wide8 [97])) from rfl] at hy
    cases hy
    exact .inl (.inr rfl))
  simp only [hd] at AD
  have NU := fun (w : World) (hp : Pur w4 w) => number_text (wide8 [32, 55, 32]) (H4.pur hp) (by decide) (fun w' h' => n7 h')
  have BO := fun w => bool_any (Va.num' 0) (by simp [Va.num']) w
  rw [show boolV (Va.num' 0) = false by decide +kernel] at BO
  have TY := fun (w : World) (hp : Pur w4 w) => type_arr 0 [] 0 (H4.pur hp).at' (by rw [hd]; rfl)
  have SR := fun w => strict_any (Va.num' 4607182418800017408) (textV (wide8 [49])) w
  rw [show strict (Va.num' 4607182418800017408) (textV (wide8 [49])) = false by decide] at SR
  simp only [textV, Va.num', Va.v, Va.cells] at T6 LO LE AD NU BO TY SR
  have Q4 := fun (w : World) (hp : Pur (w4.alloc (.cells #[.int .i64 5, .float .f64 0, .string ⟨#[]⟩, .int .i64 0] 25)) w) => bk_pur B5 hp
  clear H4 hW B5
  go_wp2_with fail
  refine T6.mono ?_
  rintro e w6 ⟨rfl, h6⟩
  have p6 := P5.trans h6
  have q0 : ∀ y : PW w6, y.to.cell? ⟨w4.heap.size, 0, none⟩ = some (.int .i64 5) := fun y => bk_cell (Q4 _ (h6.trans y.pur)) 0 _ rfl
  have q1 : ∀ y : PW w6, y.to.cell? ⟨w4.heap.size, 1, none⟩ = some (.float .f64 0) := fun y => bk_cell (Q4 _ (h6.trans y.pur)) 1 _ rfl
  have q2 : ∀ y : PW w6, y.to.cell? ⟨w4.heap.size, 2, none⟩ = some (.string ⟨#[]⟩) := fun y => bk_cell (Q4 _ (h6.trans y.pur)) 2 _ rfl
  have q3 : ∀ y : PW w6, y.to.cell? ⟨w4.heap.size, 3, none⟩ = some (.int .i64 0) := fun y => bk_cell (Q4 _ (h6.trans y.pur)) 3 _ rfl
  have LO6 := fun (y : PW w6) => LO y.to (p6.trans y.pur)
  clear T6 LO c0 c1 c2 c3
  go_wp2_with fail
  refine wp_region_pur (by kernel_rfl) (by kernel_rfl) ?_
  repeat (go_big_quiet_step (((first | (go_at_call 15; with_reducible exact quiet_pur (t1 _)) | (go_at_call 8; with_reducible exact quiet_pur (LO6 _))))))
  refine wpQuiet_nil ?_
  intro w7 h7
  have p7 := p6.trans h7
  have L7 := fun w hp => LE w (p7.trans hp)
  clear q0 q1 q2 q3 LO6 LE t1
  go_wp2_with fail
  refine (t2 _).mono ?_
  rintro e w8 ⟨rfl, h8⟩
  go_wp2_with fail
  refine (t3 _).mono ?_
  rintro e w9 ⟨rfl, h9⟩
  have L9 := L7 _ (h8.trans h9)
  clear L7 t2 t3
  go_wp2_with fail
  refine L9.mono ?_
  rintro e w10 ⟨rfl, h10⟩
  have p10 := ((p7.trans h8).trans h9).trans h10
  have A10 := fun w hp => AD w (p10.trans hp)
  clear L9 AD
  go_wp2_with fail
  refine (m1 _).mono ?_
  rintro e w11 ⟨rfl, h11⟩
  go_wp2_with fail
  refine (t4 _).mono ?_
  rintro e w12 ⟨rfl, h12⟩
  have A12 := A10 _ (h11.trans h12)
  clear A10 t4
  go_wp2_with fail
  refine A12.mono ?_
  rintro e w13 ⟨⟨v, n, rfl, hv⟩, h13⟩
  obtain ⟨rfl, rfl⟩ := aw_add hv
  simp only [textV, Va.v, Va.cells]
  have p13 := ((p10.trans h11).trans h12).trans h13
  have B13 := bk_new w13 (.cells #[.int .i64 4, .float .f64 0, .string ⟨(wide8 [49, 97]).toArray⟩, .int .i64 0] 25)
  have X9 := Lib.hid ((h11.trans (h12.trans h13)).alloc (.cells #[.int .i64 4, .float .f64 0, .string ⟨(wide8 [49, 97]).toArray⟩, .int .i64 0] 25))
  have p14 := p13.alloc (.cells #[.int .i64 4, .float .f64 0, .string ⟨(wide8 [49, 97]).toArray⟩, .int .i64 0] 25)
  have N14 := fun w hp => NU w (p14.trans hp)
  clear A12 NU hv h11 h12 h13
  go_wp2_with fail
  refine (t5 _).mono ?_
  rintro e w15 ⟨rfl, h15⟩
  have N15 := N14 _ h15
  clear N14 t5
  go_wp2_with fail
  refine N15.mono ?_
  rintro e w16 ⟨rfl, h16⟩
  have p16 := (p14.trans h15).trans h16
  have hh := h15.trans h16
  have B16 := bk_pur B13 hh
  have r2 : ∀ y : PW w16, y.to.cell? ⟨w13.heap.size, 2, none⟩ = some (.string ⟨(wide8 [49, 97]).toArray⟩) := fun y => bk_cell (bk_pur B16 y.pur) 2 _ rfl
  have h46 : Pur (w4.alloc (.cells #[.int .i64 5, .float .f64 0, .string ⟨#[]⟩, .int .i64 0] 25)) w16 := by
    refine h6.trans (h7.trans (h8.trans (h9.trans (h10.trans ?_))))
    exact X9.out.trans hh
  have q0 : ∀ y : PW w16, y.to.cell? ⟨w4.heap.size, 0, none⟩ = some (.int .i64 5) := fun y => bk_cell (Q4 _ (h46.trans y.pur)) 0 _ rfl
  have q1 : ∀ y : PW w16, y.to.cell? ⟨w4.heap.size, 1, none⟩ = some (.float .f64 0) := fun y => bk_cell (Q4 _ (h46.trans y.pur)) 1 _ rfl
  have q2 : ∀ y : PW w16, y.to.cell? ⟨w4.heap.size, 2, none⟩ = some (.string ⟨#[]⟩) := fun y => bk_cell (Q4 _ (h46.trans y.pur)) 2 _ rfl
  have q3 : ∀ y : PW w16, y.to.cell? ⟨w4.heap.size, 3, none⟩ = some (.int .i64 0) := fun y => bk_cell (Q4 _ (h46.trans y.pur)) 3 _ rfl
  have TY' := fun (y : PW w16) => TY y.to (p16.trans y.pur)
  have e7 : (FloatKind.f64.format.order 4619567317775286272 4619567317775286272 == some Ordering.eq) = true := by decide +kernel
  have hfin := PP.trans p16
  clear N15 B13 B16 h15 h16 hh h46 Q4 TY X9 h6 h7 h8 h9 h10 p6 p7 p10 p13 p14 P5
  go_wp2_with fail
  refine wp_region_pur (by kernel_rfl) (by kernel_rfl) ?_
  repeat (go_big_quiet_step (((first | (go_at_call 18; first | (with_reducible exact quiet_pur (o1 _)) | (with_reducible exact quiet_pur (o2 _))) | (go_at_call 13; first | (with_reducible exact quiet_pur (m0 _)) | (with_reducible exact quiet_pur (m1 _))) | (go_at_call 19; with_reducible exact quiet_pur (BO _)) | (go_at_call 20; with_reducible exact quiet_pur (TY' _)) | (go_at_call 15; with_reducible exact quiet_pur (t6 _)) | (go_at_call 10; with_reducible exact quiet_pur (SR _))))))
  refine wpQuiet_nil ?_
  intro w17 h17
  go_wp2
  go_ret
  exact ⟨by simp, hfin.trans h17⟩
end Cv
end Go.Proofs.YtapgibcdbggpkaaGreatDoor
namespace Go.Proofs.YtapgibcdbggpkaaGreatDoor
open Go Go.RowKit
set_option linter.all false
namespace Cv
open P10
set_option maxRecDepth 100000 in
theorem rsame0 (n : Nat) (hn : n < 18446744073709551616) (w : World) : Calls Tryz.prog 33 #[.float .f64 n, .float .f64 0] w fun e w' => e = .returned (.bool (decide (n = 0))) ∧ w = w' := by
  have h6 := @run_callFunc_extern Tryz.prog 58 _ Go.Extern.MathFloatBits.float64bits Tryz.func58 (by kernel_rfl) (by kernel_rfl) (by kernel_rfl) (by kernel_rfl)
  have fb : ∀ (n : Nat) (w : World), (Go.Extern.MathFloatBits.float64bits #[.float .f64 n]).run Tryz.prog w = .ok (.int .u64 (n : Nat)) w := fun n w => rfl
  have e0 : (FloatKind.f64.format.order 0 0 != some Ordering.eq) = false := by decide +kernel
  obtain ⟨b, hb⟩ : ∃ b, (FloatKind.f64.format.order n n != some Ordering.eq) = b := ⟨_, rfl⟩
  have hbn : b = true → n ≠ 0 := fun h e => by rw [e, e0] at hb; rw [← hb] at h; cases h
  have d1 : ((n : Int) == 0) = decide (n = 0) := by
    rw [Bool.eq_iff_iff, beq_iff_eq, decide_eq_true_eq]; omega
  rcases b with _ | _
  · go_enter Tryz.func33, Tryz.ntmps33
    go_wp2
    go_ret
    exact ⟨by simp [d1], rfl⟩
  · have hf : decide (n = 0) = false := decide_eq_false (hbn rfl)
    rw [hf]
    go_enter Tryz.func33, Tryz.ntmps33
    go_wp2
    go_ret
    exact ⟨rfl, rfl⟩
/-- the document's Right, where no object is named -/
def rr (v : Va) : Bool :=
  if v.kind = 0 ∨ v.kind = 1 then decide (v.num = 0) && (v.text == []) && decide (v.ref = 0)
  else if v.kind = 2 then (decide (v.num = 0) || eqB v.num 4607182418800017408) && (v.text == []) && decide (v.ref = 0)
  else if v.kind = 3 then (v.text == []) && decide (v.ref = 0)
  else if v.kind = 4 then decide (v.num = 0) && decide (v.ref = 0) && ((v.text.length : Int) % 2 == 0)
  else false
set_option maxRecDepth 100000 in
set_option maxHeartbeats 16000000 in
theorem rright_any (hp : Value) (v : Va) (h4 : v.kind ≤ 4) (hv : v.wf) (w : World) : Calls Tryz.prog 6 #[hp, v.v] w fun e w' => e = .returned (.bool (rr v)) ∧ Pur w w' := by
  have S := fun w => rsame0 v.num hv.1 w
  have hl := hv.2
  obtain ⟨k, n, t, r⟩ := v
  simp only [Va.v, Va.cells] at S ⊢
  simp only at h4 hl
  have P := (Pur.refl w).alloc (.cells #[.int .i64 k, .float .f64 n, .string ⟨t.toArray⟩, .int .i64 r] 25)
  obtain ⟨b0, hb0⟩ : ∃ b, decide (n = 0) = b := ⟨_, rfl⟩
  obtain ⟨b1, hb1⟩ : ∃ b, eqB n 4607182418800017408 = b := ⟨_, rfl⟩
  obtain ⟨b2, hb2⟩ : ∃ b, (t == []) = b := ⟨_, rfl⟩
  obtain ⟨b3, hb3⟩ : ∃ b, decide (r = 0) = b := ⟨_, rfl⟩
  obtain ⟨b4, hb4⟩ : ∃ b, ((t.length : Int) % 2 == 0) = b := ⟨_, rfl⟩
  have e1 : (FloatKind.f64.format.order n 4607182418800017408 == some Ordering.eq) = b1 := hb1
  have e2 : t.isEmpty = b2 := by rw [← hb2]; cases t <;> rfl
  have e3 : (r == 0) = b3 := hb3
  have e4 : ((t.length : Int).tmod 2 == 0) = b4 := by rw [Int.tmod_eq_emod_of_nonneg (by omega)]; exact hb4
  have HR0 : rr ⟨k, n, t, r⟩ = (if k = 0 ∨ k = 1 then b0 && b2 && b3 else if k = 2 then (b0 || b1) && b2 && b3 else if k = 3 then b2 && b3 else if k = 4 then b0 && b3 && b4 else false) := by
    unfold rr
    simp only [hb0, hb1, hb2, hb3, hb4]
  rw [hb0] at S
  by_cases k0 : k = 0
  · subst k0
    have HR := Lib.hid (show rr ⟨0, n, t, r⟩ = (b0 && b2 && b3) by rw [HR0]; rfl)
    clear HR0 hb0 hb1 hb4 e1 e4
    cases b0 <;> cases b2 <;> cases b3
    all_goals
      go_enter Tryz.func6, Tryz.ntmps6
      go_wp2_with fail
      refine (S _).mono ?_
      rintro e w' ⟨rfl, rfl⟩
      go_wp2
      go_ret
      exact ⟨by rw [HR.out]; rfl, P⟩
  by_cases k1 : k = 1
  · subst k1
    have HR := Lib.hid (show rr ⟨1, n, t, r⟩ = (b0 && b2 && b3) by rw [HR0]; rfl)
    clear HR0 hb0 hb1 hb4 e1 e4
    cases b0 <;> cases b2 <;> cases b3
    all_goals
      go_enter Tryz.func6, Tryz.ntmps6
      go_wp2_with fail
      refine (S _).mono ?_
      rintro e w' ⟨rfl, rfl⟩
      go_wp2
      go_ret
      exact ⟨by rw [HR.out]; rfl, P⟩
  by_cases k2 : k = 2
  · subst k2
    have HR := Lib.hid (show rr ⟨2, n, t, r⟩ = ((b0 || b1) && b2 && b3) by rw [HR0]; rfl)
    clear HR0 hb0 hb1 hb4 e4
    cases b0 <;> cases b1 <;> cases b2 <;> cases b3
    all_goals
      go_enter Tryz.func6, Tryz.ntmps6
      go_wp2_with fail
      refine (S _).mono ?_
      rintro e w' ⟨rfl, rfl⟩
      go_wp2
      go_ret
      exact ⟨by rw [HR.out]; rfl, P⟩
  by_cases k3 : k = 3
  · subst k3
    have HR := Lib.hid (show rr ⟨3, n, t, r⟩ = (b2 && b3) by rw [HR0]; rfl)
    clear HR0 hb0 hb1 hb4 e1 e4
    cases b2 <;> cases b3
    all_goals
      go_enter Tryz.func6, Tryz.ntmps6
      go_wp2_with fail
      refine (S _).mono ?_
      rintro e w' ⟨rfl, rfl⟩
      go_wp2
      go_ret
      exact ⟨by rw [HR.out]; rfl, P⟩
  by_cases k4 : k = 4
  · subst k4
    have HR := Lib.hid (show rr ⟨4, n, t, r⟩ = (b0 && b3 && b4) by rw [HR0]; rfl)
    clear HR0 hb0 hb1 hb2 e1 e2
    cases b0 <;> cases b3 <;> cases b4
    all_goals
      go_enter Tryz.func6, Tryz.ntmps6
      go_wp2_with fail
      refine (S _).mono ?_
      rintro e w' ⟨rfl, rfl⟩
      go_wp2
      go_ret
      exact ⟨by rw [HR.out]; rfl, P⟩
  · have HR := Lib.hid (show rr ⟨k, n, t, r⟩ = false by rw [HR0]; simp [k0, k1, k2, k3, k4])
    have q0 : (k == 0) = false := beq_eq_false_iff_ne.2 k0
    have q1 : (k == 1) = false := beq_eq_false_iff_ne.2 k1
    have q2 : (k == 2) = false := beq_eq_false_iff_ne.2 k2
    have q3 : (k == 3) = false := beq_eq_false_iff_ne.2 k3
    have q4 : (k == 4) = false := beq_eq_false_iff_ne.2 k4
    have q5 : (k == 5) = false := beq_eq_false_iff_ne.2 (by omega)
    have q6 : (k == 6) = false := beq_eq_false_iff_ne.2 (by omega)
    clear HR0 hb0 hb1 hb2 hb3 hb4 e1 e2 e3 e4 k0 k1 k2 k3 k4 h4
    go_enter Tryz.func6, Tryz.ntmps6
    go_wp2_with fail
    refine (S _).mono ?_
    rintro e w' ⟨rfl, rfl⟩
    go_wp2
    go_ret
    exact ⟨by rw [HR.out]; rfl, P⟩
end Cv
end Go.Proofs.YtapgibcdbggpkaaGreatDoor
