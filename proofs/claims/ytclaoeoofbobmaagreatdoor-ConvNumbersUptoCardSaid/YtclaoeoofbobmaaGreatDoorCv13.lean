/- Layer 9: the law ConvNumbers, walked. -/
import Derived.Test.YtclaoeoofbobmaaGreatDoorCvE
namespace Go.Proofs.YtclaoeoofbobmaaGreatDoor
open Go Go.RowKit
set_option linter.all false
namespace Cv
open P10
set_option maxRecDepth 100000 in
/-- the document's Same of floats: the same word, or two that are no numbers -/
theorem nsame_sum {p q r1 r2 : Nat} (h1 : sumR p q r1) (h2 : sumR p q r2) (w : World) : Calls Tryz.prog 37 #[.float .f64 r1, .float .f64 r2] w fun e w' => e = .returned (.bool true) ∧ w = w' := by
  rcases h1 with h1 | ⟨h1, n1, l1⟩
  · rcases h2 with h2 | ⟨h2, -⟩
    · rw [h1] at h2
      cases h2
      exact nsame_self r1 w
    · rw [h1] at h2; cases h2
  · rcases h2 with h2 | ⟨-, n2, l2⟩
    · rw [h1] at h2; cases h2
    · have o1 : (FloatKind.f64.format.order r1 r1 != some Ordering.eq) = true := by
        rw [show FloatKind.f64.format.order r1 r1 = none from Ie.order_nan1 n1 r1]; rfl
      have o2 : (FloatKind.f64.format.order r2 r2 != some Ordering.eq) = true := by
        rw [show FloatKind.f64.format.order r2 r2 = none from Ie.order_nan1 n2 r2]; rfl
      clear h1 n1 n2 l1 l2
      go_enter Tryz.func37, Tryz.ntmps37
      go_wp2
      go_ret
      exact ⟨rfl, rfl⟩
set_option maxRecDepth 100000 in
set_option maxHeartbeats 4000000 in
theorem rsame_sum {p q r1 r2 : Nat} (h1 : sumR p q r1) (h2 : sumR p q r2) (w : World) : Calls Tryz.prog 15 #[(Va.mk 3 r1 [] 0).v, (Va.mk 3 r2 [] 0).v] w fun e w' => e = .returned (.bool true) ∧ Pur w w' := by
  have S := fun w => nsame_sum h1 h2 w
  simp only [Va.v, Va.cells]
  clear h1 h2
  go_enter Tryz.func15, Tryz.ntmps15
  go_wp2_with fail
  refine (S _).mono ?_
  rintro e w' ⟨rfl, rfl⟩
  go_wp2
  go_ret
  exact ⟨by simp, ((Pur.refl w).alloc _).alloc _⟩
theorem hd_new (c : Int) (h0 : 0 ≤ c) (h1 : c ≤ 10000) : Hd.new c = ⟨c, []⟩ := by
  unfold Hd.new cellsOf
  rw [show min (max c 0) 10000 = c by omega, show ((c.toNat : Nat) : Int) = c by omega]
theorem numbers_bools {x y : Nat} (hx : nanB x = true ∨ nanB y = true) : ltB x y = false ∧ eqB x y = false := by
  have key : FloatKind.f64.format.order x y = none := by
    rcases hx with h | h
    · have : FloatKind.f64.format.order x x ≠ some Ordering.eq := by simpa [nanB] using h
      unfold Ieee.Format.order at *
      cases hr : FloatKind.f64.format.read x with
      | nan s f => cases FloatKind.f64.format.read y <;> rfl
      | infinity s => rw [hr] at this; exact absurd (by cases s <;> rfl) this
      | number s m i =>
        rw [hr] at this
        exact absurd (by simp [Ieee.Datum.order, compare, compareOfLessAndEq]) this
    · have : FloatKind.f64.format.order y y ≠ some Ordering.eq := by simpa [nanB] using h
      unfold Ieee.Format.order at *
      cases hr : FloatKind.f64.format.read y with
      | nan s f => cases FloatKind.f64.format.read x <;> rfl
      | infinity s => rw [hr] at this; exact absurd (by cases s <;> rfl) this
      | number s m i =>
        rw [hr] at this
        exact absurd (by simp [Ieee.Datum.order, compare, compareOfLessAndEq]) this
  unfold ltB eqB
  rw [key]
  exact ⟨rfl, rfl⟩
set_option maxRecDepth 100000 in
set_option maxHeartbeats 64000000 in
theorem numbers_law (x y : Nat) (w : World) (hW : CW w) (hx : x < 18446744073709551616) (hy : y < 18446744073709551616) :
    Calls Tryz.prog 4 #[.float .f64 x, .float .f64 y] w fun e w' => e = .returned (.bool true) ∧ Pur w w' := by
  have AW := awake_any hW
  have N5 := fun w => new_st 5 w
  simp only [hd_new 5 (by decide) (by decide)] at N5
  have wx := wf_num x hx
  have wy := wf_num y hy
  have PR : ∀ (d : Hd) (z : Nat), prim TX d (Va.num' z) = some (Va.num' z) := fun d z => rfl
  have NCn : ∀ (W : World) (s : Hs) (z : Nat), NC W s (Va.num' z) z := fun W s z w' _ => number_num _ z [] 0 w'
  have AD := fun (W : World) (s : Hs) (G : Nat) (h : HW W s G) => add_any (Va.num' x) (Va.num' y) h wx wy (p := x) (q := y) (fun a b ha hb => by rw [PR] at ha hb; cases ha; cases hb; exact .inr ⟨NCn _ _ _, NCn _ _ _⟩)
  have LE := fun (W : World) (s : Hs) (G : Nat) (h : HW W s G) => less_any (Va.num' x) (Va.num' y) h wx wy (p := x) (q := y) (fun a b ha hb _ => by rw [PR] at ha hb; cases ha; cases hb; exact ⟨NCn _ _ _, NCn _ _ _⟩)
  have LO := fun (W : World) (s : Hs) (G : Nat) (h : HW W s G) => loose_any (Va.num' x) (Va.num' y) h wx wy (p := x) (q := y) (fun a b ha hb _ => by rw [PR] at ha hb; cases ha; cases hb; exact ⟨NCn _ _ _, NCn _ _ _⟩)
  have NU := fun (hp : Value) w => number_num hp x [] 0 w
  have ST := fun w => strict_any (Va.num' x) (Va.num' y) w
  have BO := fun w => bool_any (Va.num' x) (by simp [Va.num']) w
  have TY := fun (hp : Value) w => type_num hp x [] 0 w
  have SS := fun (r1 r2 : Nat) (h1 : sumR x y r1) (h2 : sumR x y r2) w => rsame_sum h1 h2 w
  obtain ⟨S, S1, S2, S3⟩ := add_run 28 x y
  have e1 : (FloatKind.f64.format.order x x == some Ordering.eq) = !nanB x := by unfold nanB; rw [bne, Bool.not_not]
  have e2 : (FloatKind.f64.format.order y y == some Ordering.eq) = !nanB y := by unfold nanB; rw [bne, Bool.not_not]
  have e3 : (FloatKind.f64.format.order x y == some Ordering.lt) = ltB x y := rfl
  have e4 : (FloatKind.f64.format.order x y == some Ordering.eq) = eqB x y := rfl
  have e5 : (FloatKind.f64.format.order x 0 != some Ordering.eq) = !eqB x 0 := rfl
  have e6 : (FloatKind.f64.format.order x x != some Ordering.eq) = nanB x := rfl
  have hb3 : strict (Va.num' x) (Va.num' y) = eqB x y := rfl
  have hb4 : boolV (Va.num' x) = (!nanB x && !eqB x 0) := rfl
  have hl : lessG (some (Va.num' x)) (some (Va.num' y)) x y = some (if nanB x = true ∨ nanB y = true then -1 else if ltB x y = true then 1 else 0) := rfl
  have hlo : ∀ d, looseG (Va.num' x) (Va.num' y) (prim TX d (Va.num' x)) (prim TX d (Va.num' y)) x y = some (eqB x y) := fun d => rfl
  have hnl := numbers_bools (x := x) (y := y)
  rw [hb3] at ST
  rw [hb4] at BO
  simp only [PR, hl] at LE
  simp only [hlo] at LO
  simp only [PR, addG] at AD
  generalize eqB x y = q at *
  generalize eqB x 0 = z at *
  generalize nanB x = nx at *
  generalize nanB y = ny at *
  generalize ltB x y = lt at *
  clear hb3 hb4 hl hlo PR wx wy hx hy NCn
  simp only [Va.num', Va.v, Va.cells] at AD LE LO NU ST BO TY SS
  go_enter Tryz.func4, Tryz.ntmps4
  go_wp2_with fail
  refine AW.mono ?_
  rintro e w1 ⟨rfl, h1⟩
  go_wp2_with fail
  refine (N5 _).mono ?_
  rintro e w2 ⟨hh, rfl, A2⟩
  obtain ⟨s, H2, hs, hd⟩ := At.hw A2 (hW.pur h1) (by simp)
  have p2 := h1.trans A2.pur
  subst hs
  clear AW N5 A2 hW
  go_upto_region 5 with (fail)
  obtain ⟨PW, X0, X1⟩ : Pur w2 ((w2.alloc (.cells #[.int .i64 3, .float .f64 x, .string ⟨#[]⟩, .int .i64 0] 30)).alloc (.cells #[.int .i64 3, .float .f64 y, .string ⟨#[]⟩, .int .i64 0] 30)) ∧ ((w2.alloc (.cells #[.int .i64 3, .float .f64 x, .string ⟨#[]⟩, .int .i64 0] 30)).alloc (.cells #[.int .i64 3, .float .f64 y, .string ⟨#[]⟩, .int .i64 0] 30)).heap[w2.heap.size]? = some (.cells #[.int .i64 3, .float .f64 x, .string ⟨#[]⟩, .int .i64 0] 30 (0, 0)) ∧ ((w2.alloc (.cells #[.int .i64 3, .float .f64 x, .string ⟨#[]⟩, .int .i64 0] 30)).alloc (.cells #[.int .i64 3, .float .f64 y, .string ⟨#[]⟩, .int .i64 0] 30)).heap[w2.heap.size + 1]? = some (.cells #[.int .i64 3, .float .f64 y, .string ⟨#[]⟩, .int .i64 0] 30 (0, 0)) := two_blocks w2 (Va.num' x) (Va.num' y)
  generalize ((w2.alloc (.cells #[.int .i64 3, .float .f64 x, .string ⟨#[]⟩, .int .i64 0] 30)).alloc (.cells #[.int .i64 3, .float .f64 y, .string ⟨#[]⟩, .int .i64 0] 30)) = W at *
  have H3 := H2.pur PW
  have p3 := p2.trans PW
  have A3 := AD _ _ _ H3
  have k0 := bk_cell X0 0 _ rfl
  have k1 := bk_cell X0 1 _ rfl
  have k2 := bk_cell X0 2 _ rfl
  have k3 := bk_cell X0 3 _ rfl
  have m0 := bk_cell X1 0 _ rfl
  have m1 := bk_cell X1 1 _ rfl
  have m2 := bk_cell X1 2 _ rfl
  have m3 := bk_cell X1 3 _ rfl
  clear H2 AD p2 PW
  go_wp2_with fail
  refine A3.mono ?_
  rintro e w3 ⟨⟨v, n, rfl, hv⟩, h3⟩
  unfold addP at hv
  rw [if_neg (show ¬((3 : Int) = 4 ∨ (3 : Int) = 4) by decide)] at hv
  obtain ⟨rfl, r1, rfl, hr1⟩ := hv
  simp only [Va.v, Va.cells]
  have h4 := h3.alloc (.cells #[.int .i64 3, .float .f64 r1, .string ⟨#[]⟩, .int .i64 0] 30)
  have B4 := bk_new w3 (.cells #[.int .i64 3, .float .f64 r1, .string ⟨#[]⟩, .int .i64 0] 30)
  have X0' := bk_pur X0 h4
  have X1' := bk_pur X1 h4
  have k0 := bk_cell X0' 0 _ rfl
  have k1 := bk_cell X0' 1 _ rfl
  have k2 := bk_cell X0' 2 _ rfl
  have k3 := bk_cell X0' 3 _ rfl
  have m0 := bk_cell X1' 0 _ rfl
  have m1 := bk_cell X1' 1 _ rfl
  have m2 := bk_cell X1' 2 _ rfl
  have m3 := bk_cell X1' 3 _ rfl
  have L4 := LE _ _ _ (H3.pur h4)
  clear A3 LE
  go_wp2_with fail
  refine L4.mono ?_
  rintro e w5 ⟨rfl, h5⟩
  have X0'' := bk_pur X0' h5
  have X1'' := bk_pur X1' h5
  have k0 := bk_cell X0'' 0 _ rfl
  have k1 := bk_cell X0'' 1 _ rfl
  have k2 := bk_cell X0'' 2 _ rfl
  have k3 := bk_cell X0'' 3 _ rfl
  have m0 := bk_cell X1'' 0 _ rfl
  have m1 := bk_cell X1'' 1 _ rfl
  have m2 := bk_cell X1'' 2 _ rfl
  have m3 := bk_cell X1'' 3 _ rfl
  have h45 := h4.trans h5
  have L5 := LO _ _ _ (H3.pur h45)
  have B5 := bk_pur B4 h5
  clear L4 X0 X1 X0' X1' B4 h4 h3
  obtain ⟨l, hl⟩ : ∃ l, (if nx = true ∨ ny = true then (-1 : Int) else if lt = true then 1 else 0) = l := ⟨_, rfl⟩
  rw [hl, show ri (some l) = .tuple #[.int .i64 l, .int .i64 0] from rfl]
  go_wp2_with fail
  refine (NU _ _).mono ?_
  rintro e w6 ⟨rfl, h6⟩
  have X0 := bk_pur X0'' h6
  have X1 := bk_pur X1'' h6
  have k0 := bk_cell X0 0 _ rfl
  have k1 := bk_cell X0 1 _ rfl
  have k2 := bk_cell X0 2 _ rfl
  have k3 := bk_cell X0 3 _ rfl
  have m0 := bk_cell X1 0 _ rfl
  have m1 := bk_cell X1 1 _ rfl
  have m2 := bk_cell X1 2 _ rfl
  have m3 := bk_cell X1 3 _ rfl
  have h46 := h45.trans h6
  have L6 := LO _ _ _ (H3.pur h46)
  have B6 := bk_pur B5 h6
  clear L5 LO X0'' X1'' B5 h45 h5
  go_wp2_with fail
  refine L6.mono ?_
  rintro e w7 ⟨rfl, h7⟩
  have Y0 := bk_pur X0 h7
  have Y1 := bk_pur X1 h7
  have B7 := bk_pur B6 h7
  have p7 := p3.trans (h46.trans h7)
  rw [show rb (some q) = .tuple #[.bool q, .int .i64 0] from rfl]
  clear L6 X0 X1 B6 h46 h6 h7 H3 hnl p3
  clear k0 k1 k2 k3 m0 m1 m2 m3
  have a0 := bk_cell B7 0 _ rfl
  have a1 := bk_cell B7 1 _ rfl
  have a2 := bk_cell B7 2 _ rfl
  have a3 := bk_cell B7 3 _ rfl
  have SR := S1 w7
  have S3' := S3 w7
  have hS := (S2 w7).1
  generalize S w7 = sw at *
  obtain ⟨r2, w8⟩ := sw
  simp only at SR S3' hS
  have Y0 := bk_pur Y0 hS
  have Y1 := bk_pur Y1 hS
  have SX := SS r1 r2 hr1 S3'
  have p8 := p7.trans hS
  clear S1 S2 S3 SS hr1 S3' B7 p7 hS
  cases lt <;> cases nx <;> cases ny
  all_goals
    simp only [Bool.not_true, Bool.not_false, Bool.true_and, Bool.false_and, Bool.false_eq_true, if_true, if_false, or_true, true_or, or_false, false_or] at hl e1 e2 BO
    subst hl
    go_wp2_with fail
    refine (SX _).mono ?_
    rintro e w9 ⟨rfl, h9⟩
    have Z0 := bk_pur Y0 h9
    have Z1 := bk_pur Y1 h9
    have k0 := bk_cell Z0 0 _ rfl
    have k1 := bk_cell Z0 1 _ rfl
    have k2 := bk_cell Z0 2 _ rfl
    have k3 := bk_cell Z0 3 _ rfl
    have m0 := bk_cell Z1 0 _ rfl
    have m1 := bk_cell Z1 1 _ rfl
    have m2 := bk_cell Z1 2 _ rfl
    have m3 := bk_cell Z1 3 _ rfl
    clear a0 a1 a2 a3 SR SX
    go_wp2_with fail
    refine (ST _).mono ?_
    rintro e w10 ⟨rfl, h10⟩
    have V0 := bk_pur Z0 h10
    have n0 := bk_cell V0 0 _ rfl
    have n1 := bk_cell V0 1 _ rfl
    have n2 := bk_cell V0 2 _ rfl
    have n3 := bk_cell V0 3 _ rfl
    clear k0 k1 k2 k3 m0 m1 m2 m3 ST
    go_wp2_with fail
    refine (BO _).mono ?_
    rintro e w11 ⟨rfl, h11⟩
    have U0 := bk_pur V0 h11
    have v0 := bk_cell U0 0 _ rfl
    have v1 := bk_cell U0 1 _ rfl
    have v2 := bk_cell U0 2 _ rfl
    have v3 := bk_cell U0 3 _ rfl
    clear n0 n1 n2 n3 BO
    go_wp2_with fail
    refine (TY _ _).mono ?_
    rintro e w12 ⟨rfl, h12⟩
    go_wp2
    go_ret
    exact ⟨by simp, (((p8.trans h9).trans h10).trans h11).trans h12⟩
end Cv
end Go.Proofs.YtclaoeoofbobmaaGreatDoor
