/- Layer 9: Text; Bool, Type, Strict; plain values. Layer 9: a plain value in the place of an object; both; a value's number. Layer 9: both values as plain ones. -/
import Derived.Test.YtapgibcdbggpkaaGreatDoorCv4
import Derived.Test.YtapgibcdbggpkaaGreatDoorCvA
import Derived.Test.YtapgibcdbggpkaaGreatDoorHaA
namespace Go.Proofs.YtapgibcdbggpkaaGreatDoor
open Go Go.RowKit
set_option linter.all false
namespace Cv
open P10
/-- a heap that layer 9 works over -/
structure HW (w : World) (s : Hs) (G : Nat) : Prop where
  at' : HpAt w s
  ok : s.d.Ok G
  wf : ∀ x ∈ s.d.xs, ∀ v ∈ x.items, v.wf
  cw : CW w
theorem HW.pur {w w' : World} {s : Hs} {G : Nat} (h : HW w s G) (hp : Pur w w') : HW w' s G := ⟨h.at'.pur hp, h.ok, h.wf, h.cw.pur hp⟩
set_option maxRecDepth 100000 in
set_option maxHeartbeats 4000000 in
theorem text_any {w : World} {s : Hs} {G : Nat} (v : Va) (h : HW w s G) (hv : v.wf) :
    Calls Tryz.prog 14 #[.pointer (some ⟨s.h, 0, none⟩), v.v] w fun e w' => e = .returned (tv (text TX s.d v)) ∧ Pur w w' := by
  obtain ⟨R, hR⟩ : ∃ R, text TX s.d v = R := ⟨_, rfl⟩
  have TL := fun (w1 : World) (tb : Nat) (hA : TA w w1 tb s.h (.slice none 0 0) []) => tell_any (arr := arrT TX s.d (s.d.xs.length + 1) []) v h.at' hA h.cw hv (fun _ hk w2 h2 => array_any h.at' h.ok h.cw h.wf (s.d.xs.length + 1) [] v.ref _ w2 hk List.nodup_nil (by simp) (by simp) h2)
  rw [show tellV TX s.d (arrT TX s.d (s.d.xs.length + 1) []) v = R from hR] at TL
  obtain ⟨b9, n9, hb⟩ : ∃ b n, tv R = .tuple #[.string b, .int .i64 n] := ⟨_, _, rfl⟩
  rw [hR]
  rw [hb] at TL ⊢
  obtain ⟨kk, nn, tt, rr⟩ := v
  simp only [Va.v, Va.cells] at TL ⊢
  have A2 : TA w ((w.alloc (.cells #[.int .i64 kk, .float .f64 nn, .string ⟨tt.toArray⟩, .int .i64 rr] 25)).alloc (.cells #[.pointer (some ⟨s.h, 0, none⟩), .slice none 0 0] 90)) (w.heap.size + 1) s.h (.slice none 0 0) [] := by
    have hs : (w.alloc (.cells #[.int .i64 kk, .float .f64 nn, .string ⟨tt.toArray⟩, .int .i64 rr] 25)).heap.size = w.heap.size + 1 := Array.size_push _
    refine ⟨?_, World.ownsRow_nil _ _ _ _, by simp [Value.ownBlock], by omega, ((Pur.refl w).alloc _).alloc _⟩
    rw [← hs]
    exact bk_new _ _
  have T := TL _ _ A2
  clear TL h hv hR hb A2
  go_enter Tryz.func14, Tryz.ntmps14
  go_wp2_with fail
  refine T.mono ?_
  rintro e w3 ⟨rfl, h3⟩
  obtain ⟨av', h4, -, -⟩ := h3
  have hp := h4.pur
  clear h4 T
  go_wp2
  refine bodyPost_ret (v := .tuple #[.string b9, .int .i64 n9]) (by simp [results, Tryz.results14, go_sem]) rfl ⟨rfl, hp⟩
set_option maxRecDepth 100000 in
set_option maxHeartbeats 4000000 in
theorem plain_any (v : Va) (w : World) : Calls Tryz.prog 35 #[v.v] w fun e w' => e = .returned (.bool (plainV v)) ∧ Pur w w' := by
  obtain ⟨kk, nn, tt, rr⟩ := v
  simp only [Va.v, Va.cells]
  unfold plainV
  simp only
  obtain ⟨b0, hb0⟩ : ∃ b, (kk != 5) = b := ⟨_, rfl⟩
  obtain ⟨b1, hb1⟩ : ∃ b, (kk != 6) = b := ⟨_, rfl⟩
  rw [hb0, hb1]
  have P := (Pur.refl w).alloc (.cells #[.int .i64 kk, .float .f64 nn, .string ⟨tt.toArray⟩, .int .i64 rr] 25)
  cases b0 <;> cases b1
  all_goals
    go_enter Tryz.func35, Tryz.ntmps35
    go_wp2
    go_ret
    exact ⟨rfl, P⟩
set_option maxRecDepth 100000 in
set_option maxHeartbeats 8000000 in
theorem bool_any (v : Va) (hl : v.text.length ≤ 1000000000) (w : World) : Calls Tryz.prog 19 #[v.v] w fun e w' => e = .returned (.bool (boolV v)) ∧ Pur w w' := by
  obtain ⟨kk, nn, tt, rr⟩ := v
  simp only [Va.v, Va.cells]
  simp only at hl
  have P := (Pur.refl w).alloc (.cells #[.int .i64 kk, .float .f64 nn, .string ⟨tt.toArray⟩, .int .i64 rr] 25)
  by_cases k0 : kk = 0
  · subst k0
    have HR := Lib.hid (show boolV ⟨0, nn, tt, rr⟩ = false from rfl)
    go_enter Tryz.func19, Tryz.ntmps19
    go_wp2
    go_ret
    exact ⟨by rw [HR.out]; rfl, P⟩
  by_cases k1 : kk = 1
  · subst k1
    have HR := Lib.hid (show boolV ⟨1, nn, tt, rr⟩ = false from rfl)
    go_enter Tryz.func19, Tryz.ntmps19
    go_wp2
    go_ret
    exact ⟨by rw [HR.out]; rfl, P⟩
  by_cases k23 : kk = 2 ∨ kk = 3
  · have HR := Lib.hid (show boolV ⟨kk, nn, tt, rr⟩ = (!nanB nn && !eqB nn 0) by unfold boolV; rcases k23 with rfl | rfl <;> rfl)
    have e0 : (FloatKind.f64.format.order nn nn == some Ordering.eq) = !nanB nn := by unfold nanB; rw [bne, Bool.not_not]
    have e1 : (FloatKind.f64.format.order nn 0 == some Ordering.eq) = eqB nn 0 := rfl
    have e2 : (FloatKind.f64.format.order nn 0 != some Ordering.eq) = !eqB nn 0 := rfl
    generalize nanB nn = n1 at *
    generalize eqB nn 0 = n2 at *
    rcases k23 with rfl | rfl <;> cases n1 <;> cases n2
    all_goals
      simp only [Bool.not_true, Bool.not_false] at e0 e2
      go_enter Tryz.func19, Tryz.ntmps19
      go_wp2
      go_ret
      exact ⟨by rw [HR.out]; rfl, P⟩
  have k2 : kk ≠ 2 := fun e => k23 (.inl e)
  have k3 : kk ≠ 3 := fun e => k23 (.inr e)
  by_cases k4 : kk = 4
  · subst k4
    have HR := Lib.hid (show boolV ⟨4, nn, tt, rr⟩ = decide (1 < tt.length) from rfl)
    obtain ⟨bl, hbl⟩ : ∃ b, decide (1 < tt.length) = b := ⟨_, rfl⟩
    rw [hbl] at HR
    have d1 : decide ((1 : Int) < (tt.length : Int)) = bl := by rw [← hbl, decide_eq_decide]; omega
    cases bl
    all_goals
      go_enter Tryz.func19, Tryz.ntmps19
      go_wp2
      go_ret
      exact ⟨by rw [HR.out]; rfl, P⟩
  · have HR := Lib.hid (show boolV ⟨kk, nn, tt, rr⟩ = true by unfold boolV; simp [k0, k1, k2, k3, k4])
    have e0 : (kk == 0) = false := beq_eq_false_iff_ne.2 k0
    have e1 : (kk == 1) = false := beq_eq_false_iff_ne.2 k1
    have e2 : (kk == 2) = false := beq_eq_false_iff_ne.2 k2
    have e3 : (kk == 3) = false := beq_eq_false_iff_ne.2 k3
    have e4 : (kk == 4) = false := beq_eq_false_iff_ne.2 k4
    clear k0 k1 k2 k3 k4 k23
    go_enter Tryz.func19, Tryz.ntmps19
    go_wp2
    go_ret
    exact ⟨by rw [HR.out]; rfl, P⟩
set_option maxRecDepth 100000 in
set_option maxHeartbeats 8000000 in
theorem strict_any (a b : Va) (w : World) : Calls Tryz.prog 10 #[a.v, b.v] w fun e w' => e = .returned (.bool (strict a b)) ∧ Pur w w' := by
  obtain ⟨k, n, t, r⟩ := a
  obtain ⟨k', n', t', r'⟩ := b
  simp only [Va.v, Va.cells]
  have P := ((Pur.refl w).alloc (.cells #[.int .i64 k, .float .f64 n, .string ⟨t.toArray⟩, .int .i64 r] 25)).alloc (.cells #[.int .i64 k', .float .f64 n', .string ⟨t'.toArray⟩, .int .i64 r'] 25)
  by_cases hk : k = k'
  · subst hk
    by_cases k0 : k = 0
    · subst k0
      have HR := Lib.hid (show strict ⟨0, n, t, r⟩ ⟨0, n', t', r'⟩ = true from rfl)
      go_enter Tryz.func10, Tryz.ntmps10
      go_wp2
      go_ret
      exact ⟨by rw [HR.out]; rfl, P⟩
    by_cases k1 : k = 1
    · subst k1
      have HR := Lib.hid (show strict ⟨1, n, t, r⟩ ⟨1, n', t', r'⟩ = true from rfl)
      go_enter Tryz.func10, Tryz.ntmps10
      go_wp2
      go_ret
      exact ⟨by rw [HR.out]; rfl, P⟩
    by_cases k23 : k = 2 ∨ k = 3
    · have HR := Lib.hid (show strict ⟨k, n, t, r⟩ ⟨k, n', t', r'⟩ = eqB n n' by unfold strict; rcases k23 with rfl | rfl <;> rfl)
      have e1 : (FloatKind.f64.format.order n n' == some Ordering.eq) = eqB n n' := rfl
      generalize eqB n n' = q at *
      rcases k23 with rfl | rfl <;> cases q
      all_goals
        go_enter Tryz.func10, Tryz.ntmps10
        go_wp2
        go_ret
        exact ⟨by rw [HR.out]; rfl, P⟩
    have k2 : k ≠ 2 := fun e => k23 (.inl e)
    have k3 : k ≠ 3 := fun e => k23 (.inr e)
    by_cases k4 : k = 4
    · subst k4
      have HR := Lib.hid (show strict ⟨4, n, t, r⟩ ⟨4, n', t', r'⟩ = decide (t = t') from rfl)
      have e1 : (t == t') = decide (t = t') := by rw [Bool.eq_iff_iff]; simp
      generalize decide (t = t') = q at *
      cases q
      all_goals
        go_enter Tryz.func10, Tryz.ntmps10
        go_wp2
        go_ret
        exact ⟨by rw [HR.out]; rfl, P⟩
    · have HR := Lib.hid (show strict ⟨k, n, t, r⟩ ⟨k, n', t', r'⟩ = decide (r = r') by unfold strict; simp [k0, k1, k2, k3, k4])
      have e0 : (k == 0) = false := beq_eq_false_iff_ne.2 k0
      have e1 : (k == 1) = false := beq_eq_false_iff_ne.2 k1
      have e2 : (k == 2) = false := beq_eq_false_iff_ne.2 k2
      have e3 : (k == 3) = false := beq_eq_false_iff_ne.2 k3
      have e4 : (k == 4) = false := beq_eq_false_iff_ne.2 k4
      have e5 : (r == r') = decide (r = r') := rfl
      generalize decide (r = r') = q at *
      clear k0 k1 k2 k3 k4 k23
      cases q
      all_goals
        go_enter Tryz.func10, Tryz.ntmps10
        go_wp2
        go_ret
        exact ⟨by rw [HR.out]; rfl, P⟩
  · have HR := Lib.hid (show strict ⟨k, n, t, r⟩ ⟨k', n', t', r'⟩ = false by unfold strict; rw [if_pos hk])
    have e0 : (k != k') = true := bne_iff_ne.2 hk
    clear hk
    go_enter Tryz.func10, Tryz.ntmps10
    go_wp2
    go_ret
    exact ⟨by rw [HR.out]; rfl, P⟩
end Cv
end Go.Proofs.YtapgibcdbggpkaaGreatDoor
namespace Go.Proofs.YtapgibcdbggpkaaGreatDoor
open Go Go.RowKit
set_option linter.all false
namespace Cv
open P10
theorem Pur.cut {w w1 w2 : World} (h : Pur w w2) (k : Pur w w1) (hs : w1.heap.size ≤ w2.heap.size) : Pur w w2 := h
def cellsZ : List Value := [.int .i64 0, .float .f64 0, .string ⟨#[]⟩, .int .i64 0]
set_option maxRecDepth 100000 in
set_option maxHeartbeats 4000000 in
theorem prim_any {w : World} {s : Hs} {G : Nat} (v : Va) (h : HW w s G) (hv : v.wf) :
    Calls Tryz.prog 59 #[.pointer (some ⟨s.h, 0, none⟩), v.v] w fun e w' => e = .returned (.tuple #[((prim TX s.d v).getD (textV [])).v, .int .i64 (if (prim TX s.d v).isSome = true then 0 else 112)]) ∧ Pur w w' := by
  have PL := fun w => plain_any v w
  have TE := fun w1 (hp : Pur w w1) => text_any v (h.pur hp) hv
  obtain ⟨R, hR⟩ : ∃ R, prim TX s.d v = R := ⟨_, rfl⟩
  rw [hR]
  unfold prim at hR
  obtain ⟨kk, nn, tt, rr⟩ := v
  have hs1 : (w.alloc (.cells #[.int .i64 kk, .float .f64 nn, .string ⟨tt.toArray⟩, .int .i64 rr] 25)).heap.size = w.heap.size + 1 := Array.size_push _
  have P2 : Pur w ((w.alloc (.cells #[.int .i64 kk, .float .f64 nn, .string ⟨tt.toArray⟩, .int .i64 rr] 25)).alloc (.cells #[.int .i64 0, .float .f64 0, .string ⟨#[]⟩, .int .i64 0] 25)) := ((Pur.refl w).alloc _).alloc _
  have B1 := bk_alloc (bk_new w (.cells #[.int .i64 kk, .float .f64 nn, .string ⟨tt.toArray⟩, .int .i64 rr] 25)) (.cells #[.int .i64 0, .float .f64 0, .string ⟨#[]⟩, .int .i64 0] 25)
  have B2 := bk_new (w.alloc (.cells #[.int .i64 kk, .float .f64 nn, .string ⟨tt.toArray⟩, .int .i64 rr] 25)) (.cells #[.int .i64 0, .float .f64 0, .string ⟨#[]⟩, .int .i64 0] 25)
  rw [hs1] at B2
  have Q1 := fun w2 hp => bk_pur (w' := w2) B1 hp
  have Q2 := fun w2 hp => bk_pur (w' := w2) B2 hp
  simp only [Va.v, Va.cells] at PL TE ⊢
  clear h hv B1 B2 hs1
  by_cases hp : plainV ⟨kk, nn, tt, rr⟩ = true
  · rw [if_pos hp] at hR
    subst hR
    rw [hp] at PL
    clear TE
    simp only [Option.getD_some, Option.isSome_some, if_true]
    go_enter Tryz.func59, Tryz.ntmps59
    go_wp2_with fail
    refine (PL _).mono ?_
    rintro e w1 ⟨rfl, h1⟩
    have r1 := Q1 _ h1
    have r2 := Q2 _ h1
    have g0 := bk_cell r1 0 _ rfl
    have g1 := bk_cell r1 1 _ rfl
    have g2 := bk_cell r1 2 _ rfl
    have g3 := bk_cell r1 3 _ rfl
    have c0 := bk_cell r2 0 _ rfl
    have c1 := bk_cell r2 1 _ rfl
    have c2 := bk_cell r2 2 _ rfl
    have c3 := bk_cell r2 3 _ rfl
    have f0 := bk_free r2 0
    have f1 := bk_free r2 1
    have f2 := bk_free r2 2
    have f3 := bk_free r2 3
    have hpp := P2.trans h1
    clear Q1 Q2 r1 r2 P2 h1 PL
    go_wp2
    refine bodyPost_ret (v := .tuple #[.agg #[.int .i64 kk, .float .f64 nn, .string ⟨tt.toArray⟩, .int .i64 rr], .int .i64 0]) (by simp [results, Tryz.results59, go_sem, c0, c1, c2, c3]) rfl ⟨rfl, ?_⟩
    repeat (first | with_reducible exact hpp | with_reducible refine Pur.setCell ?_ (Nat.le_succ _) _)
  · have hpf : plainV ⟨kk, nn, tt, rr⟩ = false := by simpa using hp
    rw [if_neg hp] at hR
    rw [hpf] at PL
    obtain ⟨R0, hR0⟩ : ∃ R0, text TX s.d ⟨kk, nn, tt, rr⟩ = R0 := ⟨_, rfl⟩
    rw [hR0] at hR TE
    subst hR
    obtain ⟨b9, n9, hb, hb9, hn9⟩ : ∃ b n, tv R0 = .tuple #[.string b, .int .i64 n] ∧ b = ⟨(R0.getD []).toArray⟩ ∧ n = (if R0.isSome = true then 0 else 112) := ⟨_, _, rfl, rfl, rfl⟩
    rw [hb] at TE
    have HF : (.tuple #[((R0.map textV).getD (textV [])).v, .int .i64 (if (R0.map textV).isSome = true then 0 else 112)] : Value) = .tuple #[.agg #[.int .i64 4, .float .f64 0, .string b9, .int .i64 0], .int .i64 n9] := by
      rw [hb9, hn9]
      cases R0 <;> rfl
    simp only [Va.v, Va.cells] at HF
    rw [HF]
    clear hp hpf hR0 HF hb hb9 hn9
    go_enter Tryz.func59, Tryz.ntmps59
    go_wp2_with fail
    refine (PL _).mono ?_
    rintro e w1 ⟨rfl, h1⟩
    have r1 := Q1 _ h1
    have g0 := bk_cell r1 0 _ rfl
    have g1 := bk_cell r1 1 _ rfl
    have g2 := bk_cell r1 2 _ rfl
    have g3 := bk_cell r1 3 _ rfl
    go_wp2_with fail
    refine (TE _ (P2.trans h1)).mono ?_
    rintro e w2 ⟨rfl, h2⟩
    have r2 := Q2 _ (h1.trans h2)
    have c0 := bk_cell r2 0 _ rfl
    have c1 := bk_cell r2 1 _ rfl
    have c2 := bk_cell r2 2 _ rfl
    have c3 := bk_cell r2 3 _ rfl
    have f0 := bk_free r2 0
    have f1 := bk_free r2 1
    have f2 := bk_free r2 2
    have f3 := bk_free r2 3
    have hpp := (P2.trans h1).trans h2
    clear Q1 Q2 r1 r2 P2 h1 h2 PL TE
    go_wp2
    refine bodyPost_ret (v := .tuple #[.agg #[.int .i64 4, .float .f64 0, .string b9, .int .i64 0], .int .i64 n9]) (by simp [results, Tryz.results59, go_sem, c0, c1, c2, c3]) rfl ⟨rfl, ?_⟩
    repeat (first | with_reducible exact hpp | with_reducible refine Pur.setCell ?_ (Nat.le_succ _) _)
end Cv
end Go.Proofs.YtapgibcdbggpkaaGreatDoor
namespace Go.Proofs.YtapgibcdbggpkaaGreatDoor
open Go Go.RowKit
set_option linter.all false
namespace Cv
open P10
/-- both, and the error -/
def twoV (o1 o2 : Option Va) (b : Va) : Va × Va × Int := match o1 with
  | none => (textV [], b, 112)
  | some x => match o2 with
    | none => (x, textV [], 112)
    | some y => (x, y, 0)
theorem four_blocks (w : World) (a b : Va) : let W := ((((w.alloc (.cells a.cells.toArray 25)).alloc (.cells b.cells.toArray 25)).alloc (.cells #[.int .i64 0, .float .f64 0, .string ⟨#[]⟩, .int .i64 0] 25)).alloc (.cells #[.int .i64 0, .float .f64 0, .string ⟨#[]⟩, .int .i64 0] 25))
    Pur w W ∧ W.heap[w.heap.size]? = some (.cells a.cells.toArray 25 (0, 0)) ∧ W.heap[w.heap.size + 1]? = some (.cells b.cells.toArray 25 (0, 0)) ∧
    W.heap[w.heap.size + 1 + 1]? = some (.cells #[.int .i64 0, .float .f64 0, .string ⟨#[]⟩, .int .i64 0] 25 (0, 0)) ∧ W.heap[w.heap.size + 1 + 1 + 1]? = some (.cells #[.int .i64 0, .float .f64 0, .string ⟨#[]⟩, .int .i64 0] 25 (0, 0)) ∧ W.heap.size = w.heap.size + 4 := by
  intro W
  have h1 : (w.alloc (.cells a.cells.toArray 25)).heap.size = w.heap.size + 1 := Array.size_push _
  have h2 : ((w.alloc (.cells a.cells.toArray 25)).alloc (.cells b.cells.toArray 25)).heap.size = w.heap.size + 1 + 1 := by rw [← h1]; exact Array.size_push _
  have h3 : (((w.alloc (.cells a.cells.toArray 25)).alloc (.cells b.cells.toArray 25)).alloc (.cells #[.int .i64 0, .float .f64 0, .string ⟨#[]⟩, .int .i64 0] 25)).heap.size = w.heap.size + 1 + 1 + 1 := by rw [← h2]; exact Array.size_push _
  refine ⟨((((Pur.refl w).alloc _).alloc _).alloc _).alloc _, bk_alloc (bk_alloc (bk_alloc (bk_new _ _) _) _) _, ?_, ?_, ?_, ?_⟩
  · rw [← h1]; exact bk_alloc (bk_alloc (bk_new _ _) _) _
  · rw [← h2]; exact bk_alloc (bk_new _ _) _
  · rw [← h3]; exact bk_new _ _
  · show (Array.push _ _).size = _
    rw [Array.size_push, h3]
set_option maxRecDepth 100000 in
set_option maxHeartbeats 16000000 in
theorem two_any {w : World} {s : Hs} {G : Nat} (a b : Va) (h : HW w s G) (ha : a.wf) (hb : b.wf) :
    Calls Tryz.prog 36 #[.pointer (some ⟨s.h, 0, none⟩), a.v, b.v] w fun e w' => e = .returned (.tuple #[(twoV (prim TX s.d a) (prim TX s.d b) b).1.v, (twoV (prim TX s.d a) (prim TX s.d b) b).2.1.v, .int .i64 (twoV (prim TX s.d a) (prim TX s.d b) b).2.2]) ∧ Pur w w' := by
  have PA := fun w1 (hp : Pur w w1) => prim_any a (h.pur hp) ha
  have PB := fun w1 (hp : Pur w w1) => prim_any b (h.pur hp) hb
  generalize prim TX s.d a = o1 at *
  generalize prim TX s.d b = o2 at *
  obtain ⟨hP, X0, X1, X2, X3, hsz⟩ := four_blocks w a b
  obtain ⟨ak, an, at', ar⟩ := a
  obtain ⟨bk, bn, bt, br⟩ := b
  simp only [Va.v, Va.cells] at *
  obtain ⟨W, hW⟩ : ∃ W, ((((w.alloc (.cells #[.int .i64 ak, .float .f64 an, .string ⟨at'.toArray⟩, .int .i64 ar] 25)).alloc (.cells #[.int .i64 bk, .float .f64 bn, .string ⟨bt.toArray⟩, .int .i64 br] 25)).alloc (.cells #[.int .i64 0, .float .f64 0, .string ⟨#[]⟩, .int .i64 0] 25)).alloc (.cells #[.int .i64 0, .float .f64 0, .string ⟨#[]⟩, .int .i64 0] 25)) = W := ⟨_, rfl⟩
  rw [hW] at hP X0 X1 X2 X3 hsz
  have k0 := bk_cell X0 0 _ rfl
  have k1 := bk_cell X0 1 _ rfl
  have k2 := bk_cell X0 2 _ rfl
  have k3 := bk_cell X0 3 _ rfl
  clear h ha hb
  cases o1 with
  | none =>
    simp only [twoV, Option.getD_none, Option.isSome_none, Bool.false_eq_true, if_false, textV] at PA ⊢
    clear PB
    go_enter Tryz.func36, Tryz.ntmps36
    go_wp2_with fail
    refine (PA _ hP).mono ?_
    rintro e w1 ⟨rfl, h1⟩
    clear hW k0 k1 k2 k3
    have Y1 := bk_alloc (bk_pur X1 h1) (.cells #[.int .i64 4, .float .f64 0, .string ⟨#[]⟩, .int .i64 0] 25)
    have Y2 := bk_alloc (bk_pur X2 h1) (.cells #[.int .i64 4, .float .f64 0, .string ⟨#[]⟩, .int .i64 0] 25)
    have Y3 := bk_alloc (bk_pur X3 h1) (.cells #[.int .i64 4, .float .f64 0, .string ⟨#[]⟩, .int .i64 0] 25)
    have Y4 := bk_new w1 (.cells #[.int .i64 4, .float .f64 0, .string ⟨#[]⟩, .int .i64 0] 25)
    have hpp : Pur w (w1.alloc (.cells #[.int .i64 4, .float .f64 0, .string ⟨#[]⟩, .int .i64 0] 25)) := (hP.trans h1).alloc _
    have a0 := bk_cell Y1 0 _ rfl
    have a1 := bk_cell Y1 1 _ rfl
    have a2 := bk_cell Y1 2 _ rfl
    have a3 := bk_cell Y1 3 _ rfl
    have c0 := bk_cell Y2 0 _ rfl
    have c1 := bk_cell Y2 1 _ rfl
    have c2 := bk_cell Y2 2 _ rfl
    have c3 := bk_cell Y2 3 _ rfl
    have d0 := bk_cell Y3 0 _ rfl
    have d1 := bk_cell Y3 1 _ rfl
    have d2 := bk_cell Y3 2 _ rfl
    have d3 := bk_cell Y3 3 _ rfl
    have q0 := bk_cell Y4 0 _ rfl
    have q1 := bk_cell Y4 1 _ rfl
    have q2 := bk_cell Y4 2 _ rfl
    have q3 := bk_cell Y4 3 _ rfl
    have f0 := bk_free Y2 0
    have f1 := bk_free Y2 1
    have f2 := bk_free Y2 2
    have f3 := bk_free Y2 3
    have g0 := bk_free Y3 0
    have g1 := bk_free Y3 1
    have g2 := bk_free Y3 2
    have g3 := bk_free Y3 3
    clear Y1 Y2 Y3 Y4 X0 X1 X2 X3 PA hP h1
    go_wp2
    go_region
    go_wp2
    refine bodyPost_ret (v := .tuple #[.agg #[.int .i64 4, .float .f64 0, .string ⟨#[]⟩, .int .i64 0], .agg #[.int .i64 bk, .float .f64 bn, .string ⟨bt.toArray⟩, .int .i64 br], .int .i64 112]) (by simp [results, Tryz.results36, go_sem, c0, c1, c2, c3, d0, d1, d2, d3]) rfl ⟨rfl, ?_⟩
    repeat (first | with_reducible exact hpp | with_reducible refine Pur.drew ?_ | with_reducible refine Pur.setCell ?_ (by first | exact Nat.le_succ_of_le (Nat.le_succ _) | exact Nat.le_succ_of_le (Nat.le_succ_of_le (Nat.le_succ _))) _)
  | some x =>
    obtain ⟨xk, xn, xt, xr⟩ := x
    obtain ⟨y, hy⟩ : ∃ y, o2.getD (textV []) = y := ⟨_, rfl⟩
    obtain ⟨e2, he2⟩ : ∃ e2 : Int, (if o2.isSome = true then (0 : Int) else 112) = e2 := ⟨_, rfl⟩
    have HT : twoV (some ⟨xk, xn, xt, xr⟩) o2 ⟨bk, bn, bt, br⟩ = (⟨xk, xn, xt, xr⟩, y, e2) := by
      rw [← hy, ← he2]
      cases o2 <;> rfl
    rw [HT]
    rw [hy, he2] at PB
    clear hy he2 HT
    obtain ⟨yk, yn, yt, yr⟩ := y
    simp only [Option.getD_some, Option.isSome_some, if_true] at PA PB ⊢
    go_enter Tryz.func36, Tryz.ntmps36
    go_wp2_with fail
    refine (PA _ hP).mono ?_
    rintro e w1 ⟨rfl, h1⟩
    clear hW k0 k1 k2 k3 X0
    have Y1 := bk_alloc (bk_pur X1 h1) (.cells #[.int .i64 xk, .float .f64 xn, .string ⟨xt.toArray⟩, .int .i64 xr] 25)
    have Y4 := bk_new w1 (.cells #[.int .i64 xk, .float .f64 xn, .string ⟨xt.toArray⟩, .int .i64 xr] 25)
    have hpp := (hP.trans h1).alloc (.cells #[.int .i64 xk, .float .f64 xn, .string ⟨xt.toArray⟩, .int .i64 xr] 25)
    have X2b := bk_alloc (bk_pur X2 h1) (.cells #[.int .i64 xk, .float .f64 xn, .string ⟨xt.toArray⟩, .int .i64 xr] 25)
    have X3b := bk_alloc (bk_pur X3 h1) (.cells #[.int .i64 xk, .float .f64 xn, .string ⟨xt.toArray⟩, .int .i64 xr] 25)
    have a0 := bk_cell Y1 0 _ rfl
    have a1 := bk_cell Y1 1 _ rfl
    have a2 := bk_cell Y1 2 _ rfl
    have a3 := bk_cell Y1 3 _ rfl
    go_wp2_with fail
    refine (PB _ hpp).mono ?_
    rintro e w2 ⟨rfl, h2⟩
    clear a0 a1 a2 a3 Y1
    have Z2 := bk_alloc (bk_pur X2b h2) (.cells #[.int .i64 yk, .float .f64 yn, .string ⟨yt.toArray⟩, .int .i64 yr] 25)
    have Z3 := bk_alloc (bk_pur X3b h2) (.cells #[.int .i64 yk, .float .f64 yn, .string ⟨yt.toArray⟩, .int .i64 yr] 25)
    have Z4 := bk_alloc (bk_pur Y4 h2) (.cells #[.int .i64 yk, .float .f64 yn, .string ⟨yt.toArray⟩, .int .i64 yr] 25)
    have Z5 := bk_new w2 (.cells #[.int .i64 yk, .float .f64 yn, .string ⟨yt.toArray⟩, .int .i64 yr] 25)
    have hpp := (hpp.trans h2).alloc (.cells #[.int .i64 yk, .float .f64 yn, .string ⟨yt.toArray⟩, .int .i64 yr] 25)
    have c0 := bk_cell Z2 0 _ rfl
    have c1 := bk_cell Z2 1 _ rfl
    have c2 := bk_cell Z2 2 _ rfl
    have c3 := bk_cell Z2 3 _ rfl
    have d0 := bk_cell Z3 0 _ rfl
    have d1 := bk_cell Z3 1 _ rfl
    have d2 := bk_cell Z3 2 _ rfl
    have d3 := bk_cell Z3 3 _ rfl
    have q0 := bk_cell Z4 0 _ rfl
    have q1 := bk_cell Z4 1 _ rfl
    have q2 := bk_cell Z4 2 _ rfl
    have q3 := bk_cell Z4 3 _ rfl
    have z0 := bk_cell Z5 0 _ rfl
    have z1 := bk_cell Z5 1 _ rfl
    have z2 := bk_cell Z5 2 _ rfl
    have z3 := bk_cell Z5 3 _ rfl
    have f0 := bk_free Z2 0
    have f1 := bk_free Z2 1
    have f2 := bk_free Z2 2
    have f3 := bk_free Z2 3
    have g0 := bk_free Z3 0
    have g1 := bk_free Z3 1
    have g2 := bk_free Z3 2
    have g3 := bk_free Z3 3
    have hb1 : w1.heap.size ≠ w.heap.size + 1 + 1 := by have := bk_lt X3; have := h1.size; omega
    have hb2 : w1.heap.size ≠ w.heap.size + 1 + 1 + 1 := by have := bk_lt X3; have := h1.size; omega
    have hb3 : w2.heap.size ≠ w.heap.size + 1 + 1 := by have := bk_lt X3b; have := h2.size; omega
    have hb4 : w2.heap.size ≠ w.heap.size + 1 + 1 + 1 := by have := bk_lt X3b; have := h2.size; omega
    clear Z2 Z3 Z4 Z5 X1 X2 X3 PA PB hP h1 h2 X2b X3b Y4
    go_wp2
    go_region
    go_wp2
    refine bodyPost_ret (v := .tuple #[.agg #[.int .i64 xk, .float .f64 xn, .string ⟨xt.toArray⟩, .int .i64 xr], .agg #[.int .i64 yk, .float .f64 yn, .string ⟨yt.toArray⟩, .int .i64 yr], .int .i64 e2]) (by simp [results, Tryz.results36, go_sem, c0, c1, c2, c3, d0, d1, d2, d3]) rfl ⟨rfl, ?_⟩
    repeat (first | with_reducible exact hpp | with_reducible refine Pur.drew ?_ | with_reducible refine Pur.setCell ?_ (by first | exact Nat.le_succ_of_le (Nat.le_succ _) | exact Nat.le_succ_of_le (Nat.le_succ_of_le (Nat.le_succ _))) _)
end Cv
end Go.Proofs.YtapgibcdbggpkaaGreatDoor
