/- Layer 9: Less. Layer 9: Loose. Layer 9: Add. -/
import Derived.Test.YtapgibcdbggpkaaGreatDoorCvC
import Derived.Laws.FloatArith
namespace Go.Proofs.YtapgibcdbggpkaaGreatDoor
open Go Go.RowKit
set_option linter.all false
namespace Cv
open P10
/-- a value's number is told as x, from w on -/
def NC (w : World) (s : Hs) (v : Va) (x : Nat) : Prop := ∀ w', Pur w w' → Calls Tryz.prog 17 #[.pointer (some ⟨s.h, 0, none⟩), v.v] w' fun e w'' => e = .returned (.tuple #[.float .f64 x, .int .i64 0]) ∧ Pur w' w''
theorem two_ways (o1 o2 : Option Va) (b : Va) : (∃ x y, o1 = some x ∧ o2 = some y ∧ twoV o1 o2 b = (x, y, 0)) ∨ ((o1 = none ∨ o2 = none) ∧ ∃ x y, twoV o1 o2 b = (x, y, 112)) := by
  cases o1 with
  | none => exact .inr ⟨.inl rfl, _, _, rfl⟩
  | some x => cases o2 with
    | none => exact .inr ⟨.inr rfl, _, _, rfl⟩
    | some y => exact .inl ⟨x, y, rfl, rfl, rfl⟩
theorem two_blocks (w : World) (a b : Va) : let W := (w.alloc (.cells a.cells.toArray 25)).alloc (.cells b.cells.toArray 25)
    Pur w W ∧ W.heap[w.heap.size]? = some (.cells a.cells.toArray 25 (0, 0)) ∧ W.heap[w.heap.size + 1]? = some (.cells b.cells.toArray 25 (0, 0)) := by
  intro W
  have h1 : (w.alloc (.cells a.cells.toArray 25)).heap.size = w.heap.size + 1 := Array.size_push _
  refine ⟨((Pur.refl w).alloc _).alloc _, bk_alloc (bk_new _ _) _, ?_⟩
  rw [← h1]; exact bk_new _ _
def lessG (o1 o2 : Option Va) (p q : Nat) : Option Int := match o1, o2 with
  | some x, some y => some (if bothT x y = true then (if Op.bytesLess x.text y.text = true then 1 else 0) else if nanB p = true ∨ nanB q = true then -1 else if ltB p q = true then 1 else 0)
  | _, _ => none
def ri (o : Option Int) : Value := .tuple #[.int .i64 (o.getD 0), .int .i64 (if o.isSome = true then 0 else 112)]
set_option maxRecDepth 100000 in
set_option maxHeartbeats 32000000 in
theorem less_any {w : World} {s : Hs} {G : Nat} (a b : Va) (h : HW w s G) (ha : a.wf) (hb : b.wf) {p q : Nat} (hN : ∀ x y, prim TX s.d a = some x → prim TX s.d b = some y → bothT x y = false → NC w s x p ∧ NC w s y q) :
    Calls Tryz.prog 9 #[.pointer (some ⟨s.h, 0, none⟩), a.v, b.v] w fun e w' => e = .returned (ri (lessG (prim TX s.d a) (prim TX s.d b) p q)) ∧ Pur w w' := by
  have TW := fun w1 (hp : Pur w w1) => two_any a b (h.pur hp) ha hb
  have HO := two_ways (prim TX s.d a) (prim TX s.d b) b
  generalize prim TX s.d a = o1 at *
  generalize prim TX s.d b = o2 at *
  generalize twoV o1 o2 b = tw at *
  obtain ⟨x, y, e⟩ := tw
  simp only [Prod.mk.injEq] at HO
  obtain ⟨hP, X0, X1⟩ := two_blocks w a b
  obtain ⟨ak, an, at', ar⟩ := a
  obtain ⟨bk, bn, bt, br⟩ := b
  obtain ⟨xk, xn, xt, xr⟩ := x
  obtain ⟨yk, yn, yt, yr⟩ := y
  simp only [Va.v, Va.cells] at *
  obtain ⟨W, hW⟩ : ∃ W, (w.alloc (.cells #[.int .i64 ak, .float .f64 an, .string ⟨at'.toArray⟩, .int .i64 ar] 25)).alloc (.cells #[.int .i64 bk, .float .f64 bn, .string ⟨bt.toArray⟩, .int .i64 br] 25) = W := ⟨_, rfl⟩
  rw [hW] at hP X0 X1
  have k0 := bk_cell X0 0 _ rfl
  have k1 := bk_cell X0 1 _ rfl
  have k2 := bk_cell X0 2 _ rfl
  have k3 := bk_cell X0 3 _ rfl
  have m0 := bk_cell X1 0 _ rfl
  have m1 := bk_cell X1 1 _ rfl
  have m2 := bk_cell X1 2 _ rfl
  have m3 := bk_cell X1 3 _ rfl
  clear h ha hb
  go_enter Tryz.func9, Tryz.ntmps9
  go_upto_region 1 with (fail)
  go_cut [8] from 14 to 21 (fun v wx => v = .int .i64 e ∧ Pur w wx ∧ wx.heap[w.heap.size]? = some (.cells #[.int .i64 xk, .float .f64 xn, .string ⟨xt.toArray⟩, .int .i64 xr] 25 (0, 0)) ∧ wx.heap[w.heap.size + 1]? = some (.cells #[.int .i64 yk, .float .f64 yn, .string ⟨yt.toArray⟩, .int .i64 yr] 25 (0, 0)))
  case first =>
    clear HO hN
    go_wp2_with fail
    refine (TW _ hP).mono ?_
    rintro e1 w1 ⟨rfl, h1⟩
    have Y0 := bk_pur X0 h1
    have Y1 := bk_pur X1 h1
    have hst := st4_steps (x := ⟨xk, xn, xt, xr⟩) (y := ⟨ak, an, at', ar⟩) Y0
    have Y1b := st4_other (x := ⟨xk, xn, xt, xr⟩) Y1 (Nat.succ_ne_self w.heap.size)
    have Y0b := st4_at (x := ⟨xk, xn, xt, xr⟩) (y := ⟨ak, an, at', ar⟩) Y0
    have hst2 := st4_steps (x := ⟨yk, yn, yt, yr⟩) (y := ⟨bk, bn, bt, br⟩) Y1b
    have Y1c := st4_at (x := ⟨yk, yn, yt, yr⟩) (y := ⟨bk, bn, bt, br⟩) Y1b
    have Y0c := st4_other (x := ⟨yk, yn, yt, yr⟩) Y0b (c := w.heap.size) (b := w.heap.size + 1) (by omega)
    have hP2 := st4_pur (b := w.heap.size + 1) (x := ⟨yk, yn, yt, yr⟩) (st4_pur (b := w.heap.size) (x := ⟨xk, xn, xt, xr⟩) (hP.trans h1) (Nat.le_refl _)) (Nat.le_succ _)
    obtain ⟨⟨f0, e0⟩, ⟨f1, e1⟩, ⟨f2, e2⟩, ⟨f3, e3⟩⟩ := hst
    obtain ⟨⟨g0, i0⟩, ⟨g1, i1⟩, ⟨g2, i2⟩, ⟨g3, i3⟩⟩ := hst2
    unfold st4 at Y0c Y1c hP2 g0 g1 g2 g3 i0 i1 i2 i3
    simp only at Y0c Y1c hP2 f0 f1 f2 f3 e0 e1 e2 e3 g0 g1 g2 g3 i0 i1 i2 i3
    have HF := Lib.hid (And.intro hP2 (And.intro Y0c Y1c))
    clear Y0 Y1 Y1b Y0b Y1c Y0c hP2 TW h1 X0 X1 hP k0 k1 k2 k3 m0 m1 m2 m3
    go_wp2
    go_meet
    exact ⟨rfl, HF.out⟩
  case rest =>
    obtain ⟨rfl, PX, X4, X5⟩ := hcut
    clear X0 X1 TW hW k0 k1 k2 k3 m0 m1 m2 m3 hP
    have c0 := bk_cell X4 0 _ rfl
    have c1 := bk_cell X4 1 _ rfl
    have c2 := bk_cell X4 2 _ rfl
    have c3 := bk_cell X4 3 _ rfl
    have d0 := bk_cell X5 0 _ rfl
    have d1 := bk_cell X5 1 _ rfl
    have d2 := bk_cell X5 2 _ rfl
    have d3 := bk_cell X5 3 _ rfl
    rcases HO with ⟨x', y', rfl, rfl, ⟨rfl, rfl, rfl⟩⟩ | ⟨ho, x', y', ⟨rfl, rfl, rfl⟩⟩
    · have hN2 := hN _ _ rfl rfl
      have X5' := X5
      clear hN X4 X5
      obtain ⟨b0, hb0⟩ : ∃ b, (xk == 4) = b := ⟨_, rfl⟩
      obtain ⟨b1, hb1⟩ : ∃ b, (yk == 4) = b := ⟨_, rfl⟩
      have hbt : bothT ⟨xk, xn, xt, xr⟩ ⟨yk, yn, yt, yr⟩ = (b0 && b1) := by rw [← hb0, ← hb1]; rfl
      rw [hbt] at hN2
      have HL : lessG (some ⟨xk, xn, xt, xr⟩) (some ⟨yk, yn, yt, yr⟩) p q = some (if (b0 && b1) = true then (if Op.bytesLess xt yt = true then 1 else 0) else if nanB p = true ∨ nanB q = true then -1 else if ltB p q = true then 1 else 0) := by unfold lessG; simp only [hbt]
      by_cases hbb : (b0 && b1) = true
      · obtain ⟨rfl, rfl⟩ : b0 = true ∧ b1 = true := by simpa using hbb
        obtain ⟨bl, hbl⟩ : ∃ bl, Op.bytesLess xt yt = bl := ⟨_, rfl⟩
        have HR := Lib.hid (show ri (lessG (some ⟨xk, xn, xt, xr⟩) (some ⟨yk, yn, yt, yr⟩) p q) = .tuple #[.int .i64 (if bl = true then 1 else 0), .int .i64 0] by rw [HL, hbl]; rfl)
        have hbl2 : Op.bytesLess (ByteArray.toList ⟨xt.toArray⟩) (ByteArray.toList ⟨yt.toArray⟩) = bl := by rw [Lib.toList_data, Lib.toList_data]; exact hbl
        clear hN2 hbb hbt hbl2 HL
        cases bl
        all_goals
          go_wp2
          refine bodyPost_ret (v := .tuple #[.int .i64 _, .int .i64 0]) (by simp [results, Tryz.results9, go_sem]; try rfl) rfl ⟨by rw [HR.out]; rfl, PX⟩
      · have hbf : (b0 && b1) = false := by simpa using hbb
        obtain ⟨N1, N2⟩ := hN2 hbf
        have HR := Lib.hid (show ri (lessG (some ⟨xk, xn, xt, xr⟩) (some ⟨yk, yn, yt, yr⟩) p q) = ri (some (if nanB p = true ∨ nanB q = true then -1 else if ltB p q = true then 1 else 0)) by rw [HL, if_neg hbb])
        have e1 : (FloatKind.f64.format.order p p != some Ordering.eq) = nanB p := rfl
        have e2 : (FloatKind.f64.format.order q q != some Ordering.eq) = nanB q := rfl
        have e3 : (FloatKind.f64.format.order p q == some Ordering.lt) = ltB p q := rfl
        simp only [NC, Va.v, Va.cells] at N1 N2
        have M1 := N1 _ PX
        have M2 := fun w2 (h2 : Pur wc w2) => N2 w2 (PX.trans h2)
        have D5 := fun w2 (h2 : Pur wc w2) => bk_pur X5' h2
        clear N1 N2 HL hbt
        generalize nanB p = n1 at *
        generalize nanB q = n2 at *
        generalize ltB p q = n3 at *
        cases b0 <;> cases b1
        all_goals
          first
            | exact absurd rfl hbb
            | (skip
               go_wp2_with fail
               refine M1.mono ?_
               rintro e4 w2 ⟨rfl, h2⟩
               have D := D5 _ h2
               have j0 := bk_cell D 0 _ rfl
               have j1 := bk_cell D 1 _ rfl
               have j2 := bk_cell D 2 _ rfl
               have j3 := bk_cell D 3 _ rfl
               have M2' := M2 _ h2
               clear M1 M2 D5 D
               go_wp2_with fail
               refine M2'.mono ?_
               rintro e5 w3 ⟨rfl, h3⟩
               have PZ := (PX.trans h2).trans h3
               clear M2' h2 h3 PX
               cases n1 <;> cases n2 <;> cases n3
               all_goals
                 go_wp2
                 refine bodyPost_ret (v := .tuple #[.int .i64 _, .int .i64 0]) (by simp [results, Tryz.results9, go_sem]; try rfl) rfl ⟨by rw [HR.out]; rfl, PZ⟩)
    · have HR := Lib.hid (show ri (lessG o1 o2 p q) = .tuple #[.int .i64 0, .int .i64 112] by
        rcases ho with rfl | rfl
        · rfl
        · cases o1 <;> rfl)
      clear hN X4 X5 ho
      go_wp2
      refine bodyPost_ret (v := .tuple #[.int .i64 0, .int .i64 112]) (by simp [results, Tryz.results9, go_sem]) rfl ⟨by rw [HR.out], PX⟩
end Cv
end Go.Proofs.YtapgibcdbggpkaaGreatDoor
namespace Go.Proofs.YtapgibcdbggpkaaGreatDoor
open Go Go.RowKit
set_option linter.all false
namespace Cv
open P10
def looseM (o1 o2 : Option Va) (p q : Nat) : Option Bool := match o1, o2 with
  | some x, some y => some (if bothT x y = true then decide (x.text = y.text) else eqB p q)
  | _, _ => none
def looseG (a b : Va) (o1 o2 : Option Va) (p q : Nat) : Option Bool :=
  if a.kind = b.kind ∨ (plainV a = false ∧ plainV b = false) then some (strict a b)
  else if a.kind ≤ 1 ∨ b.kind ≤ 1 then some (decide (a.kind ≤ 1) && decide (b.kind ≤ 1))
  else looseM o1 o2 p q
def rb (o : Option Bool) : Value := .tuple #[.bool (o.getD false), .int .i64 (if o.isSome = true then 0 else 112)]
set_option maxRecDepth 100000 in
set_option maxHeartbeats 32000000 in
theorem loose_any {w : World} {s : Hs} {G : Nat} (a b : Va) (h : HW w s G) (ha : a.wf) (hb : b.wf) {p q : Nat} (hN : ∀ x y, prim TX s.d a = some x → prim TX s.d b = some y → bothT x y = false → NC w s x p ∧ NC w s y q) :
    Calls Tryz.prog 8 #[.pointer (some ⟨s.h, 0, none⟩), a.v, b.v] w fun e w' => e = .returned (rb (looseG a b (prim TX s.d a) (prim TX s.d b) p q)) ∧ Pur w w' := by
  have TW := fun w1 (hp : Pur w w1) => two_any a b (h.pur hp) ha hb
  have HO := two_ways (prim TX s.d a) (prim TX s.d b) b
  generalize prim TX s.d a = o1 at *
  generalize prim TX s.d b = o2 at *
  generalize twoV o1 o2 b = tw at *
  obtain ⟨x, y, e⟩ := tw
  simp only [Prod.mk.injEq] at HO
  have PLa := fun w => plain_any a w
  have PLb := fun w => plain_any b w
  have ST := fun w => strict_any a b w
  obtain ⟨kq, hkq⟩ : ∃ k, (a.kind == b.kind) = k := ⟨_, rfl⟩
  obtain ⟨p1, hp1⟩ : ∃ k, plainV a = k := ⟨_, rfl⟩
  obtain ⟨p2, hp2⟩ : ∃ k, plainV b = k := ⟨_, rfl⟩
  obtain ⟨l1, hl1⟩ : ∃ k, decide (a.kind ≤ 1) = k := ⟨_, rfl⟩
  obtain ⟨l2, hl2⟩ : ∃ k, decide (b.kind ≤ 1) = k := ⟨_, rfl⟩
  obtain ⟨sb, hsb⟩ : ∃ k, strict a b = k := ⟨_, rfl⟩
  have HG : looseG a b o1 o2 p q = if (kq || (!p1 && !p2)) = true then some sb else if (l1 || l2) = true then some (l1 && l2) else looseM o1 o2 p q := by
    unfold looseG
    rw [hsb, hl1, hl2]
    have e1 : (a.kind = b.kind ∨ (plainV a = false ∧ plainV b = false)) = ((kq || (!p1 && !p2)) = true) := by
      rw [hp1, hp2, ← hkq]
      cases p1 <;> cases p2 <;> simp
    have e2 : (a.kind ≤ 1 ∨ b.kind ≤ 1) = ((l1 || l2) = true) := by
      rw [← hl1, ← hl2]
      simp
    by_cases c1 : (kq || (!p1 && !p2)) = true
    · rw [if_pos (e1.mpr c1), if_pos c1]
    · rw [if_neg (fun h => c1 (e1.mp h)), if_neg c1]
      by_cases c2 : (l1 || l2) = true
      · rw [if_pos (e2.mpr c2), if_pos c2]
      · rw [if_neg (fun h => c2 (e2.mp h)), if_neg c2]
  rw [hp1] at PLa
  rw [hp2] at PLb
  rw [hsb] at ST
  clear hp1 hp2 hsb
  obtain ⟨hP, X0, X1⟩ := two_blocks w a b
  obtain ⟨ak, an, at', ar⟩ := a
  obtain ⟨bk, bn, bt, br⟩ := b
  obtain ⟨xk, xn, xt, xr⟩ := x
  obtain ⟨yk, yn, yt, yr⟩ := y
  simp only [Va.v, Va.cells] at *
  obtain ⟨W, hW⟩ : ∃ W, (w.alloc (.cells #[.int .i64 ak, .float .f64 an, .string ⟨at'.toArray⟩, .int .i64 ar] 25)).alloc (.cells #[.int .i64 bk, .float .f64 bn, .string ⟨bt.toArray⟩, .int .i64 br] 25) = W := ⟨_, rfl⟩
  rw [hW] at hP X0 X1
  have k0 := bk_cell X0 0 _ rfl
  have k1 := bk_cell X0 1 _ rfl
  have k2 := bk_cell X0 2 _ rfl
  have k3 := bk_cell X0 3 _ rfl
  have m0 := bk_cell X1 0 _ rfl
  have m1 := bk_cell X1 1 _ rfl
  have m2 := bk_cell X1 2 _ rfl
  have m3 := bk_cell X1 3 _ rfl
  clear h ha hb
  go_enter Tryz.func8, Tryz.ntmps8
  try simp only at hkq hl1 hl2
  obtain ⟨cnd, hcnd⟩ : ∃ c, (kq || (!p1 && !p2)) = c := ⟨_, rfl⟩
  rw [hcnd] at HG
  go_upto_region 1 with (fail)
  go_cut [27] from 13 to 27 (fun v wx => v = .bool cnd ∧ Pur W wx)
  case first =>
    clear HG HO hN TW ST hP
    subst hcnd
    cases kq <;> cases p1 <;> cases p2
    all_goals
      go_wp2_with (first
        | (go_at_call 35; with_reducible refine (PLa _).mono ?_; rintro e9 w1 ⟨rfl, ha1⟩; have Y0 := bk_pur X0 ha1; have Y1 := bk_pur X1 ha1; have k0 := bk_cell Y0 0 _ rfl; have k1 := bk_cell Y0 1 _ rfl; have k2 := bk_cell Y0 2 _ rfl; have k3 := bk_cell Y0 3 _ rfl; have m0 := bk_cell Y1 0 _ rfl; have m1 := bk_cell Y1 1 _ rfl; have m2 := bk_cell Y1 2 _ rfl; have m3 := bk_cell Y1 3 _ rfl)
        | (go_at_call 35; with_reducible refine (PLb _).mono ?_; rintro e9 w2 ⟨rfl, hb1⟩))
      all_goals
        go_meet
        exact ⟨rfl, by first | exact Pur.refl _ | exact ha1 | exact ha1.trans hb1⟩
  case rest =>
    obtain ⟨rfl, PW⟩ := hcut
    have X0' := bk_pur X0 PW
    have X1' := bk_pur X1 PW
    clear X0 X1 PLa PLb k0 k1 k2 k3 m0 m1 m2 m3 hW hcnd
    have hP' := hP.trans PW
    clear hP PW
    have X0 := X0'
    have X1 := X1'
    have hP := hP'
    clear X0' X1' hP'
    have k0 := bk_cell X0 0 _ rfl
    have k1 := bk_cell X0 1 _ rfl
    have k2 := bk_cell X0 2 _ rfl
    have k3 := bk_cell X0 3 _ rfl
    have m0 := bk_cell X1 0 _ rfl
    have m1 := bk_cell X1 1 _ rfl
    have m2 := bk_cell X1 2 _ rfl
    have m3 := bk_cell X1 3 _ rfl
    cases cnd with
    | true =>
      rw [if_pos rfl] at HG
      have HR := Lib.hid (congrArg rb HG)
      clear HG HO hN TW X0 X1 hl1 hl2 hkq
      go_wp2_with fail
      refine (ST _).mono ?_
      rintro e9 w2 ⟨rfl, h2⟩
      go_wp2
      refine bodyPost_ret (v := .tuple #[.bool sb, .int .i64 0]) (by simp [results, Tryz.results8, go_sem]) rfl ⟨by rw [HR.out]; rfl, hP.trans h2⟩
    | false =>
      rw [if_neg (by decide)] at HG
      clear ST hkq
      by_cases hll : (l1 || l2) = true
      · rw [if_pos hll] at HG
        have HR := Lib.hid (congrArg rb HG)
        clear HG HO hN TW X0 X1
        cases l1 <;> cases l2
        all_goals
          first
            | exact absurd hll (by decide)
            | (skip
               go_wp2
               refine bodyPost_ret (v := .tuple #[.bool _, .int .i64 0]) (by simp [results, Tryz.results8, go_sem]; try rfl) rfl ⟨by rw [HR.out]; rfl, hP⟩)
      · rw [if_neg hll] at HG
        have hlf : (l1 || l2) = false := by simpa using hll
        obtain ⟨rfl, rfl⟩ : l1 = false ∧ l2 = false := by simpa using hlf
        clear hll hlf
        go_upto_region 5 with (fail)
        go_cut [8] from 47 to 54 (fun v wx => v = .int .i64 e ∧ Pur w wx ∧ wx.heap[w.heap.size]? = some (.cells #[.int .i64 xk, .float .f64 xn, .string ⟨xt.toArray⟩, .int .i64 xr] 25 (0, 0)) ∧ wx.heap[w.heap.size + 1]? = some (.cells #[.int .i64 yk, .float .f64 yn, .string ⟨yt.toArray⟩, .int .i64 yr] 25 (0, 0)))
        case first =>
          clear HO hN HG
          go_wp2_with fail
          refine (TW _ hP).mono ?_
          rintro e1 w1 ⟨rfl, h1⟩
          have Y0 := bk_pur X0 h1
          have Y1 := bk_pur X1 h1
          have hst := st4_steps (x := ⟨xk, xn, xt, xr⟩) (y := ⟨ak, an, at', ar⟩) Y0
          have Y1b := st4_other (x := ⟨xk, xn, xt, xr⟩) Y1 (Nat.succ_ne_self w.heap.size)
          have Y0b := st4_at (x := ⟨xk, xn, xt, xr⟩) (y := ⟨ak, an, at', ar⟩) Y0
          have hst2 := st4_steps (x := ⟨yk, yn, yt, yr⟩) (y := ⟨bk, bn, bt, br⟩) Y1b
          have Y1c := st4_at (x := ⟨yk, yn, yt, yr⟩) (y := ⟨bk, bn, bt, br⟩) Y1b
          have Y0c := st4_other (x := ⟨yk, yn, yt, yr⟩) Y0b (c := w.heap.size) (b := w.heap.size + 1) (by omega)
          have hP2 := st4_pur (b := w.heap.size + 1) (x := ⟨yk, yn, yt, yr⟩) (st4_pur (b := w.heap.size) (x := ⟨xk, xn, xt, xr⟩) (hP.trans h1) (Nat.le_refl _)) (Nat.le_succ _)
          obtain ⟨⟨f0, e0⟩, ⟨f1, e1⟩, ⟨f2, e2⟩, ⟨f3, e3⟩⟩ := hst
          obtain ⟨⟨g0, i0⟩, ⟨g1, i1⟩, ⟨g2, i2⟩, ⟨g3, i3⟩⟩ := hst2
          unfold st4 at Y0c Y1c hP2 g0 g1 g2 g3 i0 i1 i2 i3
          simp only at Y0c Y1c hP2 f0 f1 f2 f3 e0 e1 e2 e3 g0 g1 g2 g3 i0 i1 i2 i3
          have HF := Lib.hid (And.intro hP2 (And.intro Y0c Y1c))
          clear Y0 Y1 Y1b Y0b Y1c Y0c hP2 TW h1 X0 X1 hP k0 k1 k2 k3 m0 m1 m2 m3
          go_wp2
          go_meet
          exact ⟨rfl, HF.out⟩
        case rest =>
          obtain ⟨rfl, PX, X4, X5⟩ := hcut
          clear X0 X1 TW k0 k1 k2 k3 m0 m1 m2 m3 hP hl1 hl2
          have c0 := bk_cell X4 0 _ rfl
          have c1 := bk_cell X4 1 _ rfl
          have c2 := bk_cell X4 2 _ rfl
          have c3 := bk_cell X4 3 _ rfl
          have d0 := bk_cell X5 0 _ rfl
          have d1 := bk_cell X5 1 _ rfl
          have d2 := bk_cell X5 2 _ rfl
          have d3 := bk_cell X5 3 _ rfl
          rcases HO with ⟨x', y', rfl, rfl, ⟨rfl, rfl, rfl⟩⟩ | ⟨ho, x', y', ⟨rfl, rfl, rfl⟩⟩
          · have hN2 := hN _ _ rfl rfl
            have X5' := X5
            clear hN X4 X5
            obtain ⟨b0, hb0⟩ : ∃ b, (xk == 4) = b := ⟨_, rfl⟩
            obtain ⟨b1, hb1⟩ : ∃ b, (yk == 4) = b := ⟨_, rfl⟩
            have hbt : bothT ⟨xk, xn, xt, xr⟩ ⟨yk, yn, yt, yr⟩ = (b0 && b1) := by rw [← hb0, ← hb1]; rfl
            rw [hbt] at hN2
            simp only [looseM, hbt] at HG
            by_cases hbb : (b0 && b1) = true
            · obtain ⟨rfl, rfl⟩ : b0 = true ∧ b1 = true := by simpa using hbb
              rw [if_pos hbb] at HG
              obtain ⟨bl, hbl⟩ : ∃ bl, decide (xt = yt) = bl := ⟨_, rfl⟩
              rw [hbl] at HG
              have hbl2 : (xt == yt) = bl := by rw [← hbl, Bool.eq_iff_iff]; simp
              have HR := Lib.hid (congrArg rb HG)
              clear hN2 hbb hbt HG
              cases bl
              all_goals
                go_wp2
                refine bodyPost_ret (v := .tuple #[.bool _, .int .i64 0]) (by simp [results, Tryz.results8, go_sem]; try rfl) rfl ⟨by rw [HR.out]; rfl, PX⟩
            · have hbf : (b0 && b1) = false := by simpa using hbb
              obtain ⟨N1, N2⟩ := hN2 hbf
              rw [if_neg hbb] at HG
              have HR := Lib.hid (congrArg rb HG)
              have e1 : (FloatKind.f64.format.order p q == some Ordering.eq) = eqB p q := rfl
              simp only [NC, Va.v, Va.cells] at N1 N2
              have M1 := N1 _ PX
              have M2 := fun w2 (h2 : Pur wc w2) => N2 w2 (PX.trans h2)
              have D5 := fun w2 (h2 : Pur wc w2) => bk_pur X5' h2
              clear N1 N2 hbt HG
              generalize eqB p q = n1 at *
              cases b0 <;> cases b1
              all_goals
                first
                  | exact absurd rfl hbb
                  | (skip
                     go_wp2_with fail
                     refine M1.mono ?_
                     rintro e4 w2 ⟨rfl, h2⟩
                     have D := D5 _ h2
                     have j0 := bk_cell D 0 _ rfl
                     have j1 := bk_cell D 1 _ rfl
                     have j2 := bk_cell D 2 _ rfl
                     have j3 := bk_cell D 3 _ rfl
                     have M2' := M2 _ h2
                     clear M1 M2 D5 D
                     go_wp2_with fail
                     refine M2'.mono ?_
                     rintro e5 w3 ⟨rfl, h3⟩
                     have PZ := (PX.trans h2).trans h3
                     clear M2' h2 h3 PX
                     cases n1
                     all_goals
                       go_wp2
                       refine bodyPost_ret (v := .tuple #[.bool _, .int .i64 0]) (by simp [results, Tryz.results8, go_sem]; try rfl) rfl ⟨by rw [HR.out]; rfl, PZ⟩)
          · have HR := Lib.hid (show rb (looseG ⟨ak, an, at', ar⟩ ⟨bk, bn, bt, br⟩ o1 o2 p q) = .tuple #[.bool false, .int .i64 112] by
              rw [HG]
              rcases ho with rfl | rfl
              · rfl
              · cases o1 <;> rfl)
            clear hN X4 X5 ho HG
            go_wp2
            refine bodyPost_ret (v := .tuple #[.bool false, .int .i64 112]) (by simp [results, Tryz.results8, go_sem]) rfl ⟨by rw [HR.out], PX⟩
end Cv
end Go.Proofs.YtapgibcdbggpkaaGreatDoor
namespace Go.Proofs.YtapgibcdbggpkaaGreatDoor
open Go Go.RowKit
set_option linter.all false
namespace Cv
open P10
/-- what a sum of floats is: one number, or no number -/
def sumR (p q r : Nat) : Prop := floatBits .add .f64 p q = some r ∨ (floatBits .add .f64 p q = none ∧ Ie.nan r = true ∧ r < 18446744073709551616)
/-- the sum as it is run: one answer in each world -/
theorem add_run (t : TypeId) (p q : Nat) : ∃ S : World → Nat × World, (∀ w, (binOp .add t (.float .f64 p) (.float .f64 q)).run Tryz.prog w = .ok (.float .f64 (S w).1) (S w).2) ∧ (∀ w, Pur w (S w).2 ∧ (S w).2.heap = w.heap) ∧ ∀ w, sumR p q (S w).1 := by
  cases hc : floatBits .add .f64 p q with
  | some r => exact ⟨fun w => (r, w), fun w => run_float_arith w .add t .f64 p q r hc, fun w => ⟨Pur.refl w, rfl⟩, fun w => .inl hc⟩
  | none =>
    have hq : ∀ m, (Question.nanBits .f64 p q).cut m = (m % 2) * 2 ^ 63 + 0x7ff0000000000000 + 1 + (m / 2) % (2 ^ 52 - 1) := fun m => rfl
    refine ⟨fun w => ((Question.nanBits .f64 p q).cut (w.tape w.drawn (.nanBits .f64 p q)), w.drew), fun w => ?_, fun w => ⟨(Pur.refl w).drew, rfl⟩, fun w => .inr ⟨hc, ?_⟩⟩
    · have h2 : FloatKind.f64.format.add p q = none := hc
      show (Op.floatArith .add .f64 p q).run Tryz.prog w = _
      unfold Op.floatArith
      simp only [h2]
      simp [go_sem, Question.forced]
    · simp only
      rw [hq]
      generalize w.tape w.drawn (.nanBits .f64 p q) = m
      have h2 : (m / 2) % (2 ^ 52 - 1) < 4503599627370495 := Nat.mod_lt _ (by decide)
      generalize (m / 2) % (2 ^ 52 - 1) = k at *
      unfold Ie.nan
      rw [decide_eq_true_eq]
      rcases Nat.mod_two_eq_zero_or_one m with h | h <;> rw [h] <;> constructor <;> omega
def tX (d : Hd) (x : Va) : List UInt8 := (text TX d x).getD []
def addP (d : Hd) (x y : Va) (p q : Nat) (v : Va) (e : Int) : Prop :=
  if x.kind = 4 ∨ y.kind = 4 then (if 8192 < (tX d x).length / 2 + (tX d y).length / 2 then v = Va.zero ∧ e = 112 else v = textV (tX d x ++ tX d y) ∧ e = 0)
  else e = 0 ∧ ∃ r, v = ⟨3, r, [], 0⟩ ∧ sumR p q r
def addG (d : Hd) (o1 o2 : Option Va) (p q : Nat) (v : Va) (e : Int) : Prop := match o1, o2 with
  | some x, some y => addP d x y p q v e
  | _, _ => v = Va.zero ∧ e = 112
theorem three_blocks (w : World) (a b : Va) : let W := ((w.alloc (.cells a.cells.toArray 25)).alloc (.cells b.cells.toArray 25)).alloc (.cells #[.int .i64 0, .float .f64 0, .string ⟨#[]⟩, .int .i64 0] 25)
    Pur w W ∧ W.heap[w.heap.size]? = some (.cells a.cells.toArray 25 (0, 0)) ∧ W.heap[w.heap.size + 1]? = some (.cells b.cells.toArray 25 (0, 0)) ∧ W.heap[w.heap.size + 1 + 1]? = some (.cells #[.int .i64 0, .float .f64 0, .string ⟨#[]⟩, .int .i64 0] 25 (0, 0)) := by
  intro W
  have h1 : (w.alloc (.cells a.cells.toArray 25)).heap.size = w.heap.size + 1 := Array.size_push _
  have h2 : ((w.alloc (.cells a.cells.toArray 25)).alloc (.cells b.cells.toArray 25)).heap.size = w.heap.size + 1 + 1 := by rw [← h1]; exact Array.size_push _
  refine ⟨(((Pur.refl w).alloc _).alloc _).alloc _, bk_alloc (bk_alloc (bk_new _ _) _) _, ?_, ?_⟩
  · rw [← h1]; exact bk_alloc (bk_new _ _) _
  · rw [← h2]; exact bk_new _ _
theorem prim_wf {T : Nat → List UInt8} (hT : ∀ x, (T x).length ≤ 100) {d : Hd} {v x : Va} (hv : v.wf) (h : prim T d v = some x) : x.wf := by
  unfold prim at h
  split at h
  · cases h; exact hv
  · cases ht : text T d v with
    | none => rw [ht] at h; cases h
    | some t =>
      rw [ht] at h
      cases h
      refine ⟨show (0 : Nat) < 18446744073709551616 by decide, ?_⟩
      have h1 := text_len hT ht
      have h2 := hv.2
      show t.length ≤ 1000000000
      omega
set_option maxRecDepth 100000 in
set_option maxHeartbeats 32000000 in
theorem add_any {w : World} {s : Hs} {G : Nat} (a b : Va) (h : HW w s G) (ha : a.wf) (hb : b.wf) {p q : Nat} (hN : ∀ x y, prim TX s.d a = some x → prim TX s.d b = some y → (x.kind = 4 ∨ y.kind = 4) ∨ (NC w s x p ∧ NC w s y q)) :
    Calls Tryz.prog 16 #[.pointer (some ⟨s.h, 0, none⟩), a.v, b.v] w fun e w' => (∃ v n, e = .returned (.tuple #[v.v, .int .i64 n]) ∧ addG s.d (prim TX s.d a) (prim TX s.d b) p q v n) ∧ Pur w w' := by
  have TW := fun w1 (hp : Pur w w1) => two_any a b (h.pur hp) ha hb
  have HO := two_ways (prim TX s.d a) (prim TX s.d b) b
  have hsh := fun y => txt_short h.cw.k.x.big y
  have wf1 := fun x (e : prim TX s.d a = some x) => prim_wf (T := TX) hsh ha e
  have wf2 := fun x (e : prim TX s.d b = some x) => prim_wf (T := TX) hsh hb e
  have TE := fun w1 (hp : Pur w w1) (x : Va) (hx : x.wf) => text_any x (h.pur hp) hx
  have TN := fun x t => text_len (T := TX) hsh (d := s.d) (v := x) (t := t)
  generalize prim TX s.d a = o1 at *
  generalize prim TX s.d b = o2 at *
  generalize twoV o1 o2 b = tw at *
  obtain ⟨x, y, e⟩ := tw
  simp only [Prod.mk.injEq] at HO
  obtain ⟨hP, X0, X1, XR⟩ := three_blocks w a b
  obtain ⟨ak, an, at', ar⟩ := a
  obtain ⟨bk, bn, bt, br⟩ := b
  obtain ⟨xk, xn, xt, xr⟩ := x
  obtain ⟨yk, yn, yt, yr⟩ := y
  simp only [Va.v, Va.cells] at *
  obtain ⟨W, hW⟩ : ∃ W, ((w.alloc (.cells #[.int .i64 ak, .float .f64 an, .string ⟨at'.toArray⟩, .int .i64 ar] 25)).alloc (.cells #[.int .i64 bk, .float .f64 bn, .string ⟨bt.toArray⟩, .int .i64 br] 25)).alloc (.cells #[.int .i64 0, .float .f64 0, .string ⟨#[]⟩, .int .i64 0] 25) = W := ⟨_, rfl⟩
  rw [hW] at hP X0 X1 XR
  have k0 := bk_cell X0 0 _ rfl
  have k1 := bk_cell X0 1 _ rfl
  have k2 := bk_cell X0 2 _ rfl
  have k3 := bk_cell X0 3 _ rfl
  have m0 := bk_cell X1 0 _ rfl
  have m1 := bk_cell X1 1 _ rfl
  have m2 := bk_cell X1 2 _ rfl
  have m3 := bk_cell X1 3 _ rfl
  clear h ha hb hsh
  go_enter Tryz.func16, Tryz.ntmps16
  go_upto_region 1 with (fail)
  go_cut [8] from 17 to 24 (fun v wx => v = .int .i64 e ∧ Pur w wx ∧ wx.heap[w.heap.size]? = some (.cells #[.int .i64 xk, .float .f64 xn, .string ⟨xt.toArray⟩, .int .i64 xr] 25 (0, 0)) ∧ wx.heap[w.heap.size + 1]? = some (.cells #[.int .i64 yk, .float .f64 yn, .string ⟨yt.toArray⟩, .int .i64 yr] 25 (0, 0)) ∧ wx.heap[w.heap.size + 1 + 1]? = some (.cells #[.int .i64 0, .float .f64 0, .string ⟨#[]⟩, .int .i64 0] 25 (0, 0)))
  case first =>
    clear HO hN wf1 wf2 TN
    go_wp2_with fail
    refine (TW _ hP).mono ?_
    rintro e1 w1 ⟨rfl, h1⟩
    have Y0 := bk_pur X0 h1
    have Y1 := bk_pur X1 h1
    have hst := st4_steps (x := ⟨xk, xn, xt, xr⟩) (y := ⟨ak, an, at', ar⟩) Y0
    have Y1b := st4_other (x := ⟨xk, xn, xt, xr⟩) Y1 (Nat.succ_ne_self w.heap.size)
    have Y0b := st4_at (x := ⟨xk, xn, xt, xr⟩) (y := ⟨ak, an, at', ar⟩) Y0
    have hst2 := st4_steps (x := ⟨yk, yn, yt, yr⟩) (y := ⟨bk, bn, bt, br⟩) Y1b
    have Y1c := st4_at (x := ⟨yk, yn, yt, yr⟩) (y := ⟨bk, bn, bt, br⟩) Y1b
    have Y0c := st4_other (x := ⟨yk, yn, yt, yr⟩) Y0b (c := w.heap.size) (b := w.heap.size + 1) (by omega)
    have YR := st4_other (x := ⟨yk, yn, yt, yr⟩) (b := w.heap.size + 1) (st4_other (x := ⟨xk, xn, xt, xr⟩) (b := w.heap.size) (bk_pur XR h1) (by omega)) (by omega)
    have hP2 := st4_pur (b := w.heap.size + 1) (x := ⟨yk, yn, yt, yr⟩) (st4_pur (b := w.heap.size) (x := ⟨xk, xn, xt, xr⟩) (hP.trans h1) (Nat.le_refl _)) (Nat.le_succ _)
    obtain ⟨⟨f0, e0⟩, ⟨f1, e1⟩, ⟨f2, e2⟩, ⟨f3, e3⟩⟩ := hst
    obtain ⟨⟨g0, i0⟩, ⟨g1, i1⟩, ⟨g2, i2⟩, ⟨g3, i3⟩⟩ := hst2
    unfold st4 at YR Y0c Y1c hP2 g0 g1 g2 g3 i0 i1 i2 i3
    simp only at YR Y0c Y1c hP2 f0 f1 f2 f3 e0 e1 e2 e3 g0 g1 g2 g3 i0 i1 i2 i3
    have HF := Lib.hid (And.intro hP2 (And.intro Y0c (And.intro Y1c YR)))
    clear YR Y0 Y1 Y1b Y0b Y1c Y0c hP2 TW h1 X0 X1 XR TE hP k0 k1 k2 k3 m0 m1 m2 m3
    go_wp2
    go_meet
    exact ⟨rfl, HF.out⟩
  case rest =>
    obtain ⟨rfl, PX, X4, X5, X6⟩ := hcut
    clear X0 X1 XR TW hW k0 k1 k2 k3 m0 m1 m2 m3 hP
    have c0 := bk_cell X4 0 _ rfl
    have c1 := bk_cell X4 1 _ rfl
    have c2 := bk_cell X4 2 _ rfl
    have c3 := bk_cell X4 3 _ rfl
    have d0 := bk_cell X5 0 _ rfl
    have d1 := bk_cell X5 1 _ rfl
    have d2 := bk_cell X5 2 _ rfl
    have d3 := bk_cell X5 3 _ rfl
    rcases HO with ⟨x', y', rfl, rfl, ⟨rfl, rfl, rfl⟩⟩ | ⟨ho, x', y', ⟨rfl, rfl, rfl⟩⟩
    · have hN2 := hN _ _ rfl rfl
      have hx := wf1 _ rfl
      have hy := wf2 _ rfl
      have X5' := X5
      clear hN wf1 wf2
      obtain ⟨b0, hb0⟩ : ∃ b, (xk == 4) = b := ⟨_, rfl⟩
      obtain ⟨b1, hb1⟩ : ∃ b, (yk == 4) = b := ⟨_, rfl⟩
      have hbt : (xk = 4 ∨ yk = 4) = ((b0 || b1) = true) := by rw [← hb0, ← hb1]; simp
      have T1 := TE _ PX _ hx
      have T2 := fun w2 (h2 : Pur wc w2) => TE w2 (PX.trans h2) _ hy
      have D5 := fun w2 (h2 : Pur wc w2) => bk_pur X5' h2
      have D6 := fun w2 (h2 : Pur wc w2) => bk_pur X6 h2
      by_cases hbb : (b0 || b1) = true
      · have HP : ∀ v n, addG s.d (some ⟨xk, xn, xt, xr⟩) (some ⟨yk, yn, yt, yr⟩) p q v n ↔ (if 8192 < (tX s.d ⟨xk, xn, xt, xr⟩).length / 2 + (tX s.d ⟨yk, yn, yt, yr⟩).length / 2 then v = Va.zero ∧ n = 112 else v = textV (tX s.d ⟨xk, xn, xt, xr⟩ ++ tX s.d ⟨yk, yn, yt, yr⟩) ∧ n = 0) := fun v n => by
          unfold addG addP
          simp only
          rw [if_pos (hbt.mpr hbb)]
        have l1 : (tX s.d ⟨xk, xn, xt, xr⟩).length ≤ 1000000000 := by
          have h9 := TN ⟨xk, xn, xt, xr⟩
          have h8 := hx.2
          unfold tX
          cases hc : text TX s.d ⟨xk, xn, xt, xr⟩ with
          | none => simp
          | some t => have := h9 t hc; simp only [Option.getD_some]; simp only at h8 this; omega
        have l2 : (tX s.d ⟨yk, yn, yt, yr⟩).length ≤ 1000000000 := by
          have h9 := TN ⟨yk, yn, yt, yr⟩
          have h8 := hy.2
          unfold tX
          cases hc : text TX s.d ⟨yk, yn, yt, yr⟩ with
          | none => simp
          | some t => have := h9 t hc; simp only [Option.getD_some]; simp only at h8 this; omega
        obtain ⟨g1, hg1⟩ : ∃ g : Int, tv (text TX s.d ⟨xk, xn, xt, xr⟩) = .tuple #[.string ⟨(tX s.d ⟨xk, xn, xt, xr⟩).toArray⟩, .int .i64 g] := ⟨_, rfl⟩
        obtain ⟨g2, hg2⟩ : ∃ g : Int, tv (text TX s.d ⟨yk, yn, yt, yr⟩) = .tuple #[.string ⟨(tX s.d ⟨yk, yn, yt, yr⟩).toArray⟩, .int .i64 g] := ⟨_, rfl⟩
        rw [hg1] at T1
        simp only [hg2] at T2
        generalize tX s.d ⟨xk, xn, xt, xr⟩ = tx at *
        generalize tX s.d ⟨yk, yn, yt, yr⟩ = ty at *
        have L1 := fun w => length_any tx w (by omega)
        have L2 := fun w => length_any ty w (by omega)
        obtain ⟨n1, hn1⟩ : ∃ n, tx.length / 2 = n := ⟨_, rfl⟩
        obtain ⟨n2, hn2⟩ : ∃ n, ty.length / 2 = n := ⟨_, rfl⟩
        have ws : IntKind.i64.wrap ((n1 : Int) + (n2 : Int)) = ((n1 + n2 : Nat) : Int) := by rw [show (n1 : Int) + (n2 : Int) = ((n1 + n2 : Nat) : Int) by omega]; exact IntWalk.i64_in _ (by omega)
        obtain ⟨n3, hn3⟩ : ∃ n, n1 + n2 = n := ⟨_, rfl⟩
        rw [hn1] at L1
        rw [hn2] at L2
        rw [hn1, hn2, hn3] at HP
        rw [hn3] at ws
        obtain ⟨bg, hbg⟩ : ∃ g, decide (8192 < n3) = g := ⟨_, rfl⟩
        have hbg2 : decide ((8192 : Int) < (n3 : Int)) = bg := by rw [← hbg, decide_eq_decide]; omega
        have HQ : ∀ v n, (if bg = true then v = Va.zero ∧ n = 112 else v = textV (tx ++ ty) ∧ n = 0) → addG s.d (some ⟨xk, xn, xt, xr⟩) (some ⟨yk, yn, yt, yr⟩) p q v n := fun v n hh => by
          rw [HP]
          rw [← hbg] at hh
          simpa using hh
        have HQ := Lib.hid HQ
        have z1 : ¬ 9223372036854775807 < tx.length + ty.length := by omega
        simp only [Va.v, Va.cells] at T1 T2
        clear hN2 hbt HP hn1 hn2 hn3 hg1 hg2 TE TN l1 l2 hx hy X4 X5 X5' X6
        cases b0 <;> cases b1
        all_goals
          first
            | exact absurd hbb (by decide)
            | (skip
               go_wp2_with fail
               refine T1.mono ?_
               rintro e4 w2 ⟨rfl, h2⟩
               have D := D5 _ h2
               have j0 := bk_cell D 0 _ rfl
               have j1 := bk_cell D 1 _ rfl
               have j2 := bk_cell D 2 _ rfl
               have j3 := bk_cell D 3 _ rfl
               have T2' := T2 _ h2
               clear T1 T2 D5 D
               go_wp2_with fail
               refine T2'.mono ?_
               rintro e5 w3 ⟨rfl, h3⟩
               have PZ := (PX.trans h2).trans h3
               have E := D6 _ (h2.trans h3)
               have s0 := bk_cell E 0 _ rfl
               have s1 := bk_cell E 1 _ rfl
               have s2 := bk_cell E 2 _ rfl
               have s3 := bk_cell E 3 _ rfl
               have f0 := bk_free E 0
               have f1 := bk_free E 1
               have f2 := bk_free E 2
               have f3 := bk_free E 3
               clear T2' h2 h3 PX D6 E
               go_wp2_with fail
               refine (L1 _).mono ?_
               rintro e6 w4 ⟨rfl, rfl⟩
               go_wp2_with fail
               refine (L2 _).mono ?_
               rintro e7 w4 ⟨rfl, rfl⟩
               clear L1 L2 hbg hbb
               cases bg
               · go_wp2
                 refine bodyPost_ret (v := .tuple #[(textV (tx ++ ty)).v, .int .i64 0]) (by simp [results, Tryz.results16, go_sem, s0, s1, s2, s3, textV, Va.v, Va.cells]) rfl ⟨⟨textV (tx ++ ty), 0, rfl, HQ.out _ _ ⟨rfl, rfl⟩⟩, ?_⟩
                 repeat (first | with_reducible exact PZ | with_reducible refine Pur.drew ?_ | with_reducible refine Pur.setCell ?_ (by exact Nat.le_succ_of_le (Nat.le_succ _)) _)
               · go_wp2
                 refine bodyPost_ret (v := .tuple #[Va.zero.v, .int .i64 112]) (by simp [results, Tryz.results16, go_sem, s0, s1, s2, s3, Va.zero, Va.v, Va.cells]) rfl ⟨⟨Va.zero, 112, rfl, HQ.out _ _ ⟨rfl, rfl⟩⟩, ?_⟩
                 repeat (first | with_reducible exact PZ | with_reducible refine Pur.drew ?_ | with_reducible refine Pur.setCell ?_ (by exact Nat.le_succ_of_le (Nat.le_succ _)) _))
      · have hbf : (b0 || b1) = false := by simpa using hbb
        obtain ⟨N1, N2⟩ := hN2.resolve_left (fun h => hbb (hbt.mp h))
        have HP : ∀ r, sumR p q r → addG s.d (some ⟨xk, xn, xt, xr⟩) (some ⟨yk, yn, yt, yr⟩) p q ⟨3, r, [], 0⟩ 0 := fun r hr => by
          unfold addG addP
          simp only
          rw [if_neg (fun h => hbb (hbt.mp h))]
          exact ⟨trivial, r, rfl, hr⟩
        have HP := Lib.hid HP
        obtain ⟨S, S1, S2, S3⟩ := add_run 23 p q
        simp only [NC, Va.v, Va.cells] at N1 N2
        have M1 := N1 _ PX
        have M2 := fun w2 (h2 : Pur wc w2) => N2 w2 (PX.trans h2)
        clear N1 N2 hbt hN2 T1 T2 TE TN hx hy X4 X5 X5' X6
        cases b0 <;> cases b1
        all_goals
          first
            | exact absurd rfl hbb
            | (skip
               go_wp2_with fail
               refine M1.mono ?_
               rintro e4 w2 ⟨rfl, h2⟩
               have D := D5 _ h2
               have j0 := bk_cell D 0 _ rfl
               have j1 := bk_cell D 1 _ rfl
               have j2 := bk_cell D 2 _ rfl
               have j3 := bk_cell D 3 _ rfl
               have M2' := M2 _ h2
               clear M1 M2 D5 D
               go_wp2_with fail
               refine M2'.mono ?_
               rintro e5 w3 ⟨rfl, h3⟩
               have hS := S2 w3
               have PZ := ((PX.trans h2).trans h3).trans hS.1
               have E := bk_pur (D6 _ (h2.trans h3)) hS.1
               have s0 := bk_cell E 0 _ rfl
               have s1 := bk_cell E 1 _ rfl
               have s2 := bk_cell E 2 _ rfl
               have s3 := bk_cell E 3 _ rfl
               have f0 := bk_free E 0
               have f1 := bk_free E 1
               have f2 := bk_free E 2
               have f3 := bk_free E 3
               have SR := S1 w3
               have S3' := S3 w3
               generalize S w3 = sw at *
               obtain ⟨sr, sW⟩ := sw
               simp only at SR S3' PZ E s0 s1 s2 s3 f0 f1 f2 f3
               clear M2' h2 h3 PX D6 E S1 S2 S3 hS hbb
               go_wp2
               refine bodyPost_ret (v := .tuple #[(Va.mk 3 sr [] 0).v, .int .i64 0]) (by simp [results, Tryz.results16, go_sem, s0, s1, s2, s3, Va.v, Va.cells]) rfl ⟨⟨⟨3, sr, [], 0⟩, 0, rfl, HP.out _ S3'⟩, ?_⟩
               repeat (first | with_reducible exact PZ | with_reducible refine Pur.drew ?_ | with_reducible refine Pur.setCell ?_ (by exact Nat.le_succ_of_le (Nat.le_succ _)) _))
    · have HR := Lib.hid (show addG s.d o1 o2 p q Va.zero 112 by
        rcases ho with rfl | rfl
        · exact ⟨rfl, rfl⟩
        · cases o1 <;> exact ⟨rfl, rfl⟩)
      have s0 := bk_cell X6 0 _ rfl
      have s1 := bk_cell X6 1 _ rfl
      have s2 := bk_cell X6 2 _ rfl
      have s3 := bk_cell X6 3 _ rfl
      have f0 := bk_free X6 0
      have f1 := bk_free X6 1
      have f2 := bk_free X6 2
      have f3 := bk_free X6 3
      clear hN X4 X5 X6 ho wf1 wf2 TE TN
      go_wp2
      refine bodyPost_ret (v := .tuple #[Va.zero.v, .int .i64 112]) (by simp [results, Tryz.results16, go_sem, s0, s1, s2, s3, Va.zero, Va.v, Va.cells]) rfl ⟨⟨Va.zero, 112, rfl, HR.out⟩, ?_⟩
      repeat (first | with_reducible exact PX | with_reducible refine Pur.drew ?_ | with_reducible refine Pur.setCell ?_ (by exact Nat.le_succ_of_le (Nat.le_succ _)) _)
end Cv
end Go.Proofs.YtapgibcdbggpkaaGreatDoor
