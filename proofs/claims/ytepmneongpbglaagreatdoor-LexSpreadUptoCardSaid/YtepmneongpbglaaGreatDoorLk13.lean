/- Layer 5: one lexeme. -/
import Derived.Test.YtepmneongpbglaaGreatDoorLkX
import Derived.Test.YtepmneongpbglaaGreatDoorLk11
import Derived.Test.YtepmneongpbglaaGreatDoorLk12
import Derived.Test.YtepmneongpbglaaGreatDoorEarly
import Derived.Deep.AppendLies
namespace Go.Proofs.YtepmneongpbglaaGreatDoor
open Go Go.RowKit
set_option linter.all false
namespace Lx
@[go_sem] theorem run_store_fl {P : Program} (w : World) (a : Addr) (m : Mode) (k : FloatKind) (x : Nat) : (store a (.float k x) m).run P w = stored P w a (.float k x) m := run_store P w a _ m rfl
/-- where a lexer lies, with its lexemes -/
structure La (w0 w : World) (p : Nat) (l : List UInt8) (i : Nat) (ln : Bool) (v : Value) (m : Nat) (xs : List Value) : Prop where
  lb : Lb w p l i ln v
  row : w.ownsRow w0.heap.size 31 5 v m xs
  ne : v.ownBlock ≠ some p
  b : LB w0 p w
theorem La.chg {w0 w w' : World} {p : Nat} {l : List UInt8} {i j : Nat} {ln ln' : Bool} {v : Value} {m : Nat} {xs : List Value} (h : La w0 w p l i ln v m xs) (hc : Chg [p] w w') (hb : Lb w' p l j ln' v) : La w0 w' p l j ln' v m xs :=
  ⟨hb, row_chg h.row hc (fun g hg hm => by simp at hm; subst hm; exact h.ne hg), h.ne, h.b.chg hc⟩
theorem row_own_lt {w : World} {base : Nat} {e : TypeId} {size : Nat} {v : Value} {n : Nat} {xs : List Value} (h : w.ownsRow base e size v n xs) {g : Nat} (hg : v.ownBlock = some g) : base ≤ g ∧ g < w.heap.size := by
  obtain ⟨_, ⟨rfl, _⟩ | ⟨g', cap, cur, rfl, hb, hw, _⟩⟩ := h
  · simp [Value.ownBlock] at hg
  · simp only [Value.ownBlock, Option.some.injEq] at hg
    subst hg
    exact ⟨hb, bk_lt hw⟩
theorem lx_info : (Tryz.prog.info? 31).map (fun i => (i.zero.map (·.cells.size), i.size, i.bytes)) = some (some 5, 5, 48) := by kernel_rfl
/-- a lexeme's cells, its number said y -/
def Lx.cells (x : Lx) (y : Nat) : List Value := [.int .i64 (x.kind : Int), .string ⟨x.text.toArray⟩, .float .f64 y, .int .i64 (x.at_ : Int), .bool x.line]
/-- what a lexeme's cells hold when its parts are read -/
def OneMid (N : List UInt8 → Nat → Prop) (i : Nat) (ln : Bool) (r : Except Bool (Lx × Nat)) (kd : Int) (tx : List UInt8) (y : Nat) (ok : Bool) (j : Nat) : Prop := match r with
  | .ok (x, k) => ok = true ∧ k = j ∧ kd = (x.kind : Int) ∧ tx = x.text ∧ i = x.at_ ∧ ln = x.line ∧ (x.kind = 3 → N x.num y) ∧ (x.kind ≠ 3 → y = 0)
  | .error b => ok = false ∧ b = false
/-- how one ends -/
def OnePost (N : List UInt8 → Nat → Prop) (w0 w : World) (p : Nat) (l : List UInt8) (v : Value) (m : Nat) (xs : List Value) (r : Except Bool (Lx × Nat)) (e : Ending) (w' : World) : Prop := match r with
  | .ok (x, k) => e = .returned (.bool true) ∧ Pur w0 w' ∧ ∃ v' y, La w0 w' p l k false v' (m + 1) (xs ++ x.cells y) ∧ (x.kind = 3 → N x.num y) ∧ (x.kind ≠ 3 → y = 0)
  | .error _ => e = .returned (.bool false) ∧ Pur w0 w'
/-- while one is under way: the lexer's block, the lexeme's, the receiver's box -/
structure Sw (W3 W : World) (p X q : Nat) (l : List UInt8) (j : Nat) (v : Value) (cs : Array Value) : Prop where
  ok : Lb W p l j false v
  ox : W.heap[X]? = some (.cells cs 31 (0, 0))
  oq : W.heap[q]? = some (.cells #[.pointer (some ⟨p, 0, none⟩)] 37 (0, 0))
  og : Chg [p, X] W3 W
  pX : p ≠ X
  qX : q ≠ X
  pq : p ≠ q
section
variable {W3 W W' : World} {p X q j j' : Nat} {l : List UInt8} {v : Value} {cs : Array Value}
theorem Sw.pur (h : Sw W3 W p X q l j v cs) (hp : Pur W W') : Sw W3 W' p X q l j v cs := ⟨h.ok.pur hp, bk_pur h.ox hp, bk_pur h.oq hp, h.og.pur hp, h.pX, h.qX, h.pq⟩
theorem Sw.setx (h : Sw W3 W p X q l j v cs) (i : Nat) (u : Value) : Sw W3 (W.setCell ⟨X, i, none⟩ u) p X q l j v (cs.setIfInBounds i u) :=
  ⟨bk_other h.ok (a := ⟨X, i, none⟩) h.pX u, bk_set h.ox i u, bk_other h.oq (a := ⟨X, i, none⟩) h.qX u, h.og.setCell (.inl (by simp)) _, h.pX, h.qX, h.pq⟩
theorem Sw.next (h : Sw W3 W p X q l j v cs) (hk : Lb W' p l j' false v) (hc : Chg [p] W W') : Sw W3 W' p X q l j' v cs :=
  ⟨hk, bk_chg h.ox hc (by simp; exact Ne.symm h.pX), bk_chg h.oq hc (by simp; exact Ne.symm h.pq), h.og.next hc (fun b hb => .inl (by simp at hb; simp [hb])), h.pX, h.qX, h.pq⟩
theorem Sw.seti (h : Sw W3 W p X q l j v cs) (x : Int) (hx : x = (j' : Int)) : Sw W3 (W.setCell ⟨p, 1, none⟩ (.int .i64 x)) p X q l j' v cs :=
  h.next (h.ok.seti j' x hx) (chg1 p W 1 _)
theorem Sw.cx (h : Sw W3 W p X q l j v cs) (i : Nat) (u : Value) (hu : cs[i]? = some u) : W.cell? ⟨X, i, none⟩ = some u := bk_cell h.ox i u hu
theorem Sw.fx (h : Sw W3 W p X q l j v cs) (i : Nat) : W.frozen? ⟨X, i, none⟩ = false := bk_free h.ox i
end
def isNum (l : List UInt8) (i : Nat) : Bool := digit (by8 l i) || ((by8 l i == 46) && digit (by8 l (i + 1)))
set_option maxRecDepth 100000 in
set_option maxHeartbeats 32000000 in
theorem one_any {N : List UInt8 → Nat → Prop} {C : List UInt8 → Bool} {w0 w : World} {p i : Nat} {l : List UInt8} {ln : Bool} {v : Value} {m : Nat} {xs : List Value} (h : La w0 w p l i ln v m xs) (hN : NC w0 N C) (hi : i < l.length) (hl : l.length ≤ 100000) (hm : m ≤ 100000)
    (hC : one C l i ln ≠ .error true) :
    Calls Tryz.prog 24 #[.pointer (some ⟨p, 0, none⟩)] w fun e w' => OnePost N w0 w p l v m xs (one C l i ln) e w' := by
  obtain ⟨i0, hi0, hz⟩ := Option.map_eq_some_iff.1 lx_info
  simp only [Prod.mk.injEq] at hz
  obtain ⟨hz0, hz1, hz2⟩ := hz
  obtain ⟨z0, hz0, hzs⟩ := Option.map_eq_some_iff.1 hz0
  have hvl : ∀ g, v.ownBlock = some g → w0.heap.size ≤ g ∧ g < w.heap.size := fun g hg => row_own_lt h.row hg
  obtain ⟨W1, hW1⟩ : ∃ W1, W1 = w.alloc (.cells #[.pointer (some ⟨p, 0, none⟩)] 37) := ⟨_, rfl⟩
  have p1 : Pur w W1 := by rw [hW1]; exact (Pur.refl _).alloc _
  have Q1 : W1.heap[w.heap.size]? = some (.cells #[.pointer (some ⟨p, 0, none⟩)] 37 (0, 0)) := by rw [hW1]; exact bk_new _ _
  have k1 := h.lb.pur p1
  have hpq : p ≠ w.heap.size := by have := bk_lt h.lb; omega
  have hpa := (Pur.refl W1).alloc (.cells #[.int .i64 0, .string ⟨#[]⟩, .float .f64 0, .int .i64 0, .bool false] 31)
  have a0 := bk_cell Q1 0 _ rfl
  have a0' := bk_cell (bk_pur Q1 hpa) 0 _ rfl
  have a1 := k1.c1
  have a1' := (k1.pur hpa).c1
  have a2 := k1.c2
  have a2' := (k1.pur hpa).c2
  have hqn := bk_lt Q1
  go_enter Tryz.func24, Tryz.ntmps24
  go_wp2
  rw [← hW1]
  clear hW1
  go_region
  obtain ⟨W2, hW2⟩ : ∃ W2, W2 = (W1.alloc (.cells #[.int .i64 0, .string ⟨#[]⟩, .float .f64 0, .int .i64 (i : Int), .bool ln] 31)).drew := ⟨_, rfl⟩
  have p2 : Pur W1 W2 := by rw [hW2]; exact ((Pur.refl _).alloc _).drew
  have X2 : W2.heap[W1.heap.size]? = some (.cells #[.int .i64 0, .string ⟨#[]⟩, .float .f64 0, .int .i64 (i : Int), .bool ln] 31 (0, 0)) := by rw [hW2]; exact bk_new _ _
  rw [← hW2]
  clear hW2 hpa a0 a0' a1 a1' a2 a2'
  have Q2 := bk_pur Q1 p2
  have k2 := k1.pur p2
  have h2 := h.chg (Chg.of_pur (p1.trans p2)) k2
  have hw0 := h.b.pur.size
  have hw1 := p1.size
  have hpX : p ≠ W1.heap.size := by have := bk_lt k1; omega
  have hqX : w.heap.size ≠ W1.heap.size := by omega
  generalize hq : w.heap.size = q at *
  generalize hX : W1.heap.size = X at *
  clear k1 Q1 p1 p2 hqn hq hX h
  have a0 := bk_cell Q2 0 _ rfl
  have a2 := k2.c2
  have f2 := k2.f 2
  have k3 := k2.setln false
  have G3 := chg1 p W2 2 (.bool false)
  have Q3 := bk_chg Q2 G3 (by simp; exact Ne.symm hpq)
  have X3 := bk_chg X2 G3 (by simp; exact Ne.symm hpX)
  have h3 := h2.chg G3 k3
  obtain ⟨W3, hW3⟩ : ∃ W3, W3 = W2.setCell ⟨p, 2, none⟩ (.bool false) := ⟨_, rfl⟩
  rw [← hW3] at k3 G3 Q3 X3 h3
  have b0 := bk_cell Q3 0 _ rfl
  go_upto_region 3 with (fail)
  go_step
  go_step
  go_step
  go_step
  go_step
  go_step
  go_step
  go_step
  rw [← hW3]
  go_cut [4, 5, 6, 42] from 19 to 106 (fun t4 _ _ _ wx => ∃ (kd : Int) (tx : List UInt8) (y : Nat) (ok : Bool) (j : Nat), t4 = .bool ok ∧ Lb wx p l j false v ∧
    wx.heap[X]? = some (.cells #[.int .i64 kd, .string ⟨tx.toArray⟩, .float .f64 y, .int .i64 (i : Int), .bool ln] 31 (0, 0)) ∧ wx.heap[q]? = some (.cells #[.pointer (some ⟨p, 0, none⟩)] 37 (0, 0)) ∧ Chg [p, X] W3 wx ∧ OneMid N i ln (one C l i ln) kd tx y ok j)
  case first =>
    have PK := peek_any k3
    have S3 : Sw W3 W3 p X q l i v #[.int .i64 0, .string ⟨#[]⟩, .float .f64 0, .int .i64 (i : Int), .bool ln] := ⟨k3, X3, Q3, Chg.refl _ _, hpX, hqX, hpq⟩
    have hLB : Hid (∀ w', Chg [p, X] W3 w' → LB w0 p w') := Lib.hid (fun w' hc => ⟨h3.b.lw, h3.b.new, ((Chg.of_pur (S := [p, X]) h3.b.pur).trans hc).to_pur (fun b hb => by have := h3.b.new; simp at hb; omega)⟩)
    clear a0 a2 f2 Q2 X2 k2 h2 G3 hW3 h3 k3 Q3 X3 hi0 hz0 hz1 hz2 hzs
    go_wp2_with fail
    refine PK.mono ?_
    rintro e W4 ⟨rfl, p4⟩
    have S4 := S3.pur p4
    clear PK b0 S3 p4
    have hb8 := by8_lt l i
    have LT := fun w => letter_any (by8 l i) w
    by_cases hL : letter (by8 l i) = true
    · rw [hL] at LT
      have z0 := S4.cx 0 _ rfl
      have fz0 := S4.fx 0
      have S5 := S4.setx 0 (.int .i64 1)
      have b0 := bk_cell S5.oq 0 _ rfl
      have RW := run_word S5.ok (by omega) (by omega)
      unfold RunPost at RW
      obtain ⟨E, hE⟩ : ∃ E, run wordC l i = E := ⟨_, rfl⟩
      rw [hE] at RW
      have HO := Lib.hid (show one C l i ln = .ok (⟨if word (sub l i E) then 2 else 1, sub l i E, [], i, ln⟩, E) by
        unfold one
        rw [if_pos hL, ← hE]
        rfl)
      have hsl : (sub l i E).length ≤ 100000 := Nat.le_trans (length_sub_le _ _ _) hl
      clear hE hL hC
      generalize sub l i E = tx at *
      go_wp2_with fail
      refine (LT _).mono ?_
      rintro e W5 ⟨rfl, rfl⟩
      go_wp2_with fail
      refine RW.mono ?_
      rintro e W6 ⟨rfl, k6, g6⟩
      have S6 := S5.next k6 g6
      clear RW b0 z0 fz0 LT
      have z1 := S6.cx 1 _ rfl
      have fz1 := S6.fx 1
      have S7 := S6.setx 1 (.string ⟨tx.toArray⟩)
      have WD := word_any tx _ (hLB.out _ S7.og).w (by omega)
      have z2 := S7.cx 1 _ rfl
      rcases hw : word tx with _ | _
      all_goals
        rw [hw] at WD HO
        clear hw
      · go_wp2_with fail
        refine WD.mono ?_
        rintro e W8 ⟨rfl, p8⟩
        have S8 := S7.pur p8
        clear WD z1 fz1 z2
        go_wp2
        go_meet
        exact ⟨_, _, _, true, E, rfl, S8.ok, S8.ox, S8.oq, S8.og, by rw [HO.out]; exact ⟨rfl, rfl, rfl, rfl, rfl, rfl, (fun h => by cases h), (fun _ => rfl)⟩⟩
      · go_wp2_with fail
        refine WD.mono ?_
        rintro e W8 ⟨rfl, p8⟩
        have S8 := S7.pur p8
        clear WD z1 fz1 z2
        have z3 := S8.cx 0 _ rfl
        have fz3 := S8.fx 0
        have S9 := S8.setx 0 (.int .i64 2)
        go_wp2
        go_meet
        exact ⟨_, _, _, true, E, rfl, S9.ok, S9.ox, S9.oq, S9.og, by rw [HO.out]; exact ⟨rfl, rfl, rfl, rfl, rfl, rfl, (fun h => by cases h), (fun _ => rfl)⟩⟩
    have hLf : letter (by8 l i) = false := by simpa using hL
    rw [hLf] at LT
    go_wp2_with fail
    refine (LT _).mono ?_
    rintro e W5 ⟨rfl, rfl⟩
    go_upto_region 15 with (fail)
    clear LT hL
    go_cut [53] from 53 to 85 (fun t wx => t = .bool (isNum l i) ∧ Pur W4 wx)
    case first =>
      have q0 := S4.ok.q0
      have q1 := S4.ok.q1
      have qq : ∀ x : PW W4, x.to.cell? ⟨q, 0, none⟩ = some (.pointer (some ⟨p, 0, none⟩)) := fun x => bk_cell (bk_pur S4.oq x.pur) 0 _ rfl
      have w1' : IntKind.i64.wrap ((i : Int) + 1) = (i : Int) + 1 := IntWalk.i64_in _ (by omega)
      have i2 : ((i : Int) + 1).toNat = i + 1 := by omega
      have hH : isNum l i = (digit (by8 l i) || ((by8 l i == 46) && digit (by8 l (i + 1)))) := rfl
      have D0 := fun w => digit_any (by8 l i) w
      have D1 := fun w => digit_any (by8 l (i + 1)) w
      have e1 : ((by8 l i : Int) == 46) = (by8 l i == 46) := by rw [Bool.eq_iff_iff, beq_iff_eq, beq_iff_eq]; omega
      have hb9 := by8_lt l (i + 1)
      clear hC
      rcases d0 : digit (by8 l i) with _ | _
      · rw [d0] at D0 hH
        rcases b1 : (by8 l i == 46) with _ | _
        · rw [b1] at e1 hH
          clear D1
          refine wp_region_pur (by kernel_rfl) (by kernel_rfl) ?_
          repeat (go_big_quiet_step (((go_at_call 21; with_reducible exact quiet_eq (D0 _)))))
          refine wpQuiet_nil ?_
          intro wq hq
          go_wp2
          go_meet
          exact ⟨by rw [hH]; rfl, hq⟩
        · rw [b1] at e1 hH
          by_cases hlt : i + 1 < l.length
          · have hlt' : (i : Int) + 1 < l.length := by omega
            have d2 : decide ((i : Int) + 1 < (l.length : Int)) = true := by rw [decide_eq_true_eq]; omega
            rcases d1 : digit (by8 l (i + 1)) with _ | _
            all_goals
              rw [d1] at D1 hH
              refine wp_region_pur (by kernel_rfl) (by kernel_rfl) ?_
              repeat (go_big_quiet_step (((go_at_call 21; first | with_reducible exact quiet_eq (D0 _) | with_reducible exact quiet_eq (D1 _)))))
              refine wpQuiet_nil ?_
              intro wq hq
              go_wp2
              go_meet
              exact ⟨by rw [hH]; rfl, hq⟩
          · have d2 : decide ((i : Int) + 1 < (l.length : Int)) = false := by rw [decide_eq_false_iff_not]; omega
            rw [show by8 l (i + 1) = 0 from by8_ge (by omega)] at hH
            clear D1
            refine wp_region_pur (by kernel_rfl) (by kernel_rfl) ?_
            repeat (go_big_quiet_step (((go_at_call 21; with_reducible exact quiet_eq (D0 _)))))
            refine wpQuiet_nil ?_
            intro wq hq
            go_wp2
            go_meet
            exact ⟨by rw [hH]; rfl, hq⟩
      · rw [d0] at D0 hH
        clear D1 e1
        refine wp_region_pur (by kernel_rfl) (by kernel_rfl) ?_
        repeat (go_big_quiet_step (((go_at_call 21; with_reducible exact quiet_eq (D0 _)))))
        refine wpQuiet_nil ?_
        intro wq hq
        go_wp2
        go_meet
        exact ⟨by rw [hH]; rfl, hq⟩
    case rest =>
      obtain ⟨rfl, p5⟩ := hcut
      have S5 := S4.pur p5
      clear S4 p5
      rcases hN2 : isNum l i with _ | _
      · have hNf : isNum l i = false := hN2
        have hone : one C l i ln = if by8 l i = 34 ∨ by8 l i = 39 then (match quoteGo l (by8 l i) (l.length + 1) (i + 1) with | none => .error false | some (t, e) => .ok (⟨4, t, [], i, ln⟩, e)) else (match marks.find? (isP l i) with | none => .error false | some m => .ok (⟨5, m, [], i, ln⟩, i + m.length)) := by
          unfold one
          rw [if_neg (by rw [hLf]; simp), if_neg (by rw [show (digit (by8 l i) || (by8 l i == 46 && digit (by8 l (i + 1)))) = false from hNf]; simp)]
          rfl
        clear hNf hN2 hLf hN
        by_cases hq4 : by8 l i = 34 ∨ by8 l i = 39
        · rw [if_pos hq4] at hone
          have z0 := S5.cx 0 _ rfl
          have fz0 := S5.fx 0
          have S6 := S5.setx 0 (.int .i64 4)
          have b0 := bk_cell S6.oq 0 _ rfl
          obtain ⟨M, hM⟩ : ∃ M, by8 l i = M := ⟨_, rfl⟩
          have TX := text_any S6.ok (hLB.out _ S6.og) hi (by omega) hM
          rw [hM] at hone
          have hd : ((((by8 l i : Nat) : Int) == 34) = true) ∨ ((((by8 l i : Nat) : Int) == 34) = false ∧ (((by8 l i : Nat) : Int) == 39) = true) := by
            rcases hq4 with h | h
            · left; rw [h]; rfl
            · right; rw [h]; exact ⟨rfl, rfl⟩
          clear hM hq4 hC
          unfold EscPost at TX
          rcases hqg : quoteGo l M (l.length + 1) (i + 1) with _ | ⟨t, j⟩
          · rw [hqg] at hone TX
            have HO := Lib.hid hone
            clear hone hqg
            rcases hd with d1 | ⟨d1, d2⟩
            all_goals
              go_wp2_with fail
              refine TX.mono ?_
              rintro e W7 ⟨⟨t, rfl⟩, ⟨j, k7⟩, g7⟩
              have S7 := S6.next k7 g7
              clear TX z0 fz0 b0
              have z1 := S7.cx 1 _ rfl
              have fz1 := S7.fx 1
              have S8 := S7.setx 1 (.string ⟨t.toArray⟩)
              go_wp2
              go_meet
              exact ⟨_, _, _, false, j, rfl, S8.ok, S8.ox, S8.oq, S8.og, by rw [HO.out]; exact ⟨rfl, rfl⟩⟩
          · rw [hqg] at hone TX
            have HO := Lib.hid hone
            clear hone hqg
            rcases hd with d1 | ⟨d1, d2⟩
            all_goals
              go_wp2_with fail
              refine TX.mono ?_
              rintro e W7 ⟨rfl, k7, g7⟩
              have S7 := S6.next k7 g7
              clear TX z0 fz0 b0
              have z1 := S7.cx 1 _ rfl
              have fz1 := S7.fx 1
              have S8 := S7.setx 1 (.string ⟨t.toArray⟩)
              go_wp2
              go_meet
              exact ⟨_, _, _, true, j, rfl, S8.ok, S8.ox, S8.oq, S8.og, by rw [HO.out]; exact ⟨rfl, rfl, rfl, rfl, rfl, rfl, (fun h => by cases h), (fun _ => rfl)⟩⟩
        · rw [if_neg hq4] at hone
          have d1 : (((by8 l i : Nat) : Int) == 34) = false := by rw [beq_eq_false_iff_ne]; omega
          have d2 : (((by8 l i : Nat) : Int) == 39) = false := by rw [beq_eq_false_iff_ne]; omega
          have MK := marks_any S5.ok (hLB.out _ S5.og) S5.oq (by omega)
          clear hC hq4
          rcases mIdx_find (isP l i) marks 0 with ⟨h1, h2⟩ | ⟨n, m, hn, h1, h2⟩
          · rw [h1] at hone
            rw [h2] at MK
            have HO := Lib.hid hone
            clear hone h1 h2
            go_wp2_with fail
            refine MK.mono ?_
            rintro e W6 ⟨rfl, p6⟩
            have S6 := S5.pur p6
            clear MK
            go_wp2
            go_ret
            rw [HO.out]
            exact ⟨rfl, (hLB.out _ S6.og).pur⟩
          · rw [h1] at hone
            rw [h2, Nat.zero_add] at MK
            have HO := Lib.hid hone
            have hnl : n < 42 := by have := (List.getElem?_eq_some_iff.1 hn).1; rw [marks_len] at this; exact this
            have hm3 : m.length ≤ 3 := by
              have : ∀ x ∈ marks, x.length ≤ 3 := by decide
              exact this m (List.mem_of_getElem? hn)
            have hnl' : (n : Int) < 42 := by omega
            have hMc : Hid (∀ w', Chg [p, X] W3 w' → w'.cell? ⟨0, n, none⟩ = some (.string ⟨m.toArray⟩)) := Lib.hid (fun w' hc => (hLB.out _ hc).w.marks n m hn)
            clear hone h1 h2 hn
            go_wp2_with fail
            refine MK.mono ?_
            rintro e W6 ⟨rfl, p6⟩
            have S6 := S5.pur p6
            clear MK
            go_upto_region 8 with (fail)
            have S7 := S6.pur ((Pur.refl W6).drew)
            have z0 := S7.cx 0 _ rfl
            have fz0 := S7.fx 0
            have S8 := (S6.setx 0 (.int .i64 5)).pur ((Pur.refl _).drew)
            refine wp_region_until (T := fun w' => w'.cell? ⟨0, n, none⟩ = some (.string ⟨m.toArray⟩)) 5 (by kernel_rfl) (hMc.out _ S7.og) (fun hT => ?_)
            refine wpAnyU_take (i := 0) (v := ?vu1) rfl (by kernel_rfl) (by kernel_rfl) (by kernel_rfl) (by kernel_rfl) (by kernel_rfl) (fun _ _ _ h => h) (Or.inl ⟨by rfl, ?hu1⟩) (by assumption) ?ru1
            case hu1 => (intro w9 hSw; (try dsimp only at hSw); go_simp; (try with_reducible rfl))
            simp only [Act.put, List.setIfInBounds_toArray, List.set_cons_zero, List.set_cons_succ]
            refine wpAnyU_take (i := 1) (v := ?vu2) rfl (by kernel_rfl) (by kernel_rfl) (by kernel_rfl) (by kernel_rfl) (by kernel_rfl) (fun _ _ _ h => h) (Or.inl ⟨by rfl, ?hu2⟩) (by assumption) ?ru2
            case hu2 => (intro w9 hSw; (try dsimp only at hSw); go_simp; (try with_reducible rfl))
            simp only [Act.put, List.setIfInBounds_toArray, List.set_cons_zero, List.set_cons_succ]
            refine wpAnyU_take (i := 2) (v := ?vu3) rfl (by kernel_rfl) (by kernel_rfl) (by kernel_rfl) (by kernel_rfl) (by kernel_rfl) (fun _ _ _ h => h) (Or.inl ⟨by rfl, ?hu3⟩) (by assumption) ?ru3
            case hu3 => (intro w9 hSw; (try dsimp only at hSw); go_simp; (try with_reducible rfl))
            simp only [Act.put, List.setIfInBounds_toArray, List.set_cons_zero, List.set_cons_succ]
            refine wpAnyU_take (i := 3) (v := ?vu4) rfl (by kernel_rfl) (by kernel_rfl) (by kernel_rfl) (by kernel_rfl) (by kernel_rfl) (fun _ _ _ h => h) (Or.inl ⟨by rfl, ?hu4⟩) (by assumption) ?ru4
            case hu4 => (intro w9 hSw; (try dsimp only at hSw); go_simp; (try with_reducible rfl))
            simp only [Act.put, List.setIfInBounds_toArray, List.set_cons_zero, List.set_cons_succ]
            refine wpAnyU_next (i := 4) (by kernel_rfl) rfl (fun K hK => ?_)
            go_simp
            refine hK.out _ _ ?_ (fun hT => ?_)
            clear hK K
            try simp only [Act.put, List.setIfInBounds_toArray, List.set_cons_zero, List.set_cons_succ]
            · exact hMc.out _ S8.og
            refine wpAnyU_tail 5 (by kernel_rfl) ?_
            simp only [List.drop_succ_cons, List.drop_zero]
            have z1 := S8.cx 1 _ rfl
            have fz1 := S8.fx 1
            have S9 := (((S6.setx 0 (.int .i64 5)).setx 1 (.string ⟨m.toArray⟩))).pur ((Pur.refl _).drew)
            clear S7 hT
            go_upto_region 9 with (fail)
            obtain ⟨W9, hW9⟩ : ∃ W9, W9 = ((W6.setCell ⟨X, 0, none⟩ (.int .i64 5)).setCell ⟨X, 1, none⟩ (.string ⟨m.toArray⟩)).drew := ⟨_, rfl⟩
            rw [← hW9] at S9 ⊢
            clear hW9 S8 S6 S5 z0 fz0 z1 fz1
            have q1 := S9.ok.q1
            have qq : ∀ x : PW W9, x.to.cell? ⟨q, 0, none⟩ = some (.pointer (some ⟨p, 0, none⟩)) := fun x => bk_cell (bk_pur S9.oq x.pur) 0 _ rfl
            have qm : ∀ x : PW W9, x.to.cell? ⟨0, n, none⟩ = some (.string ⟨m.toArray⟩) := fun x => hMc.out _ (S9.og.pur x.pur)
            have w1' : IntKind.i64.wrap ((i : Int) + (m.length : Int)) = (i : Int) + (m.length : Int) := IntWalk.i64_in _ (by omega)
            refine wp_region_pur_tail 9 (by kernel_rfl) (by kernel_rfl) ?_
            simp only [List.take_succ_cons, List.take_zero, List.drop_succ_cons, List.drop_zero]
            repeat (quiet_step (fail))
            refine wpQuiet_nil ?_
            intro W10 p10
            have S10 := S9.pur p10
            have c1 := S10.ok.c1
            have f1 := S10.ok.f 1
            have S11 := S10.seti (j' := i + m.length) ((i : Int) + (m.length : Int)) (by push_cast; rfl)
            clear q1 qq qm w1'
            go_wp2
            go_meet
            exact ⟨_, _, _, true, i + m.length, rfl, S11.ok, S11.ox, S11.oq, S11.og, by rw [HO.out]; exact ⟨rfl, rfl, rfl, rfl, rfl, rfl, (fun h => by cases h), (fun _ => rfl)⟩⟩
      · -- a number
        have z0 := S5.cx 0 _ rfl
        have fz0 := S5.fx 0
        have S6 := S5.setx 0 (.int .i64 3)
        have b0 := bk_cell S6.oq 0 _ rfl
        have hone : one C l i ln = match numeral l i with | none => .error false | some e => if C (sub l i e) then .ok (⟨3, [], sub l i e, i, ln⟩, e) else .error true := by
          unfold one
          rw [if_neg (by rw [hLf]; simp), if_pos (show (digit (by8 l i) || (by8 l i == 46 && digit (by8 l (i + 1)))) = true from hN2)]
          cases numeral l i <;> rfl
        have NU := number_any S6.ok (hLB.out _ S6.og) hN hi (by omega) (fun j hj => by
          rw [hone, hj] at hC
          simp only at hC
          by_cases hc : C (sub l i j) = true
          · exact hc
          · rw [if_neg hc] at hC; exact absurd rfl hC)
        have hcc : ∀ j, numeral l i = some j → one C l i ln = .ok (⟨3, [], sub l i j, i, ln⟩, j) := fun j hj => by
          rw [hone, hj] at hC ⊢
          simp only at hC ⊢
          by_cases hc : C (sub l i j) = true
          · rw [if_pos hc]
          · rw [if_neg hc] at hC; exact absurd rfl hC
        have hce : numeral l i = none → one C l i ln = .error false := fun hj => by rw [hone, hj]
        clear hone hC hN2 hLf
        rcases hnum : numeral l i with _ | j
        · rw [hnum] at NU
          have HO := Lib.hid (hce hnum)
          clear hce hcc hnum
          unfold NumPost at NU
          go_wp2_with fail
          refine NU.mono ?_
          rintro e W7 ⟨rfl, ⟨j, k7⟩, g7⟩
          have S7 := S6.next k7 g7
          clear NU z0 fz0 b0
          have z2 := S7.cx 2 _ rfl
          have fz2 := S7.fx 2
          have S8 := S7.setx 2 (.float .f64 0)
          go_wp2
          go_meet
          exact ⟨_, _, _, false, j, rfl, S8.ok, S8.ox, S8.oq, S8.og, by rw [HO.out]; exact ⟨rfl, rfl⟩⟩
        · rw [hnum] at NU
          have HO := Lib.hid (hcc j hnum)
          clear hce hcc hnum
          unfold NumPost at NU
          go_wp2_with fail
          refine NU.mono ?_
          rintro e W7 ⟨⟨y, hy, rfl⟩, k7, g7⟩
          have S7 := S6.next k7 g7
          clear NU z0 fz0 b0
          have z2 := S7.cx 2 _ rfl
          have fz2 := S7.fx 2
          have S8 := S7.setx 2 (.float .f64 y)
          go_wp2
          go_meet
          exact ⟨_, _, _, true, j, rfl, S8.ok, S8.ox, S8.oq, S8.og, by rw [HO.out]; exact ⟨rfl, rfl, rfl, rfl, rfl, rfl, (fun _ => hy), (fun h => absurd rfl h)⟩⟩
  case rest =>
    obtain ⟨kd, tx, y, ok, j, rfl, k5, X5, Q5, G5, hmid⟩ := hcut
    clear a0 a2 f2 Q2 X2 k2 h2 G3 hW3 k3 Q3 X3
    obtain ⟨va, vc, hvv⟩ := row_shape h3.row
    have hvX : ∀ g, v.ownBlock = some g → g ∉ [p, X] := by
      intro g hg
      have h1 := hvl g hg
      have h2 : g ≠ p := fun e => h3.ne (e ▸ hg)
      simp
      omega
    have hvp := h3.ne
    have hvXX : v.ownBlock ≠ some X := fun e => by have := hvX X e; simp at this
    have hvq : v.ownBlock ≠ some q := fun e => by have := hvl q e; omega
    have R5 := row_chg h3.row G5 hvX
    have GG := (Chg.of_pur (S := [p, X]) h3.b.pur).trans G5
    have hb0 := h3.b
    have hpn := bk_lt k5
    have hqn := bk_lt Q5
    have hmm := hm
    have Pd : Pur wc (wc.alloc (.cells #[.int .i64 kd, .string ⟨tx.toArray⟩, .float .f64 y, .int .i64 (i : Int), .bool ln] 31)).drew := ((Pur.refl wc).alloc _).drew
    have hBB : w0.heap.size ≤ (wc.alloc (.cells #[.int .i64 kd, .string ⟨tx.toArray⟩, .float .f64 y, .int .i64 (i : Int), .bool ln] 31)).drew.heap.size := Nat.le_trans GG.size Pd.size
    have NB : (wc.alloc (.cells #[.int .i64 kd, .string ⟨tx.toArray⟩, .float .f64 y, .int .i64 (i : Int), .bool ln] 31)).drew.heap[wc.heap.size]? = some (.cells #[.int .i64 kd, .string ⟨tx.toArray⟩, .float .f64 y, .int .i64 (i : Int), .bool ln] 31 (0, 0)) := bk_new wc _
    have QA := bk_pur Q5 Pd
    have KA := k5.pur Pd
    have XA := bk_pur X5 Pd
    have RA := R5.alloc (.cells #[.int .i64 kd, .string ⟨tx.toArray⟩, .float .f64 y, .int .i64 (i : Int), .bool ln] 31)
    have RB := RA.drew
    have Pdr : Pur wc wc.drew := (Pur.refl wc).drew
    have q0 := bk_cell (bk_pur Q5 Pdr) 0 _ rfl
    have c3 := (k5.pur Pdr).c3
    have x0 := bk_cell (bk_pur X5 Pdr) 0 _ rfl
    have x1 := bk_cell (bk_pur X5 Pdr) 1 _ rfl
    have x2 := bk_cell (bk_pur X5 Pdr) 2 _ rfl
    have x3 := bk_cell (bk_pur X5 Pdr) 3 _ rfl
    have x4 := bk_cell (bk_pur X5 Pdr) 4 _ rfl
    subst hvv
    have hmid := Lib.hid hmid
    go_step
    go_step
    refine wp_region_until (T := fun w' => w'.cell? ⟨q, 0, none⟩ = some (.pointer (some ⟨p, 0, none⟩)) ∧ w'.cell? ⟨p, 3, none⟩ = some (.slice va m vc) ∧ w'.cell? ⟨X, 0, none⟩ = some (.int .i64 kd) ∧ w'.cell? ⟨X, 1, none⟩ = some (.string ⟨tx.toArray⟩) ∧ w'.cell? ⟨X, 2, none⟩ = some (.float .f64 y) ∧ w'.cell? ⟨X, 3, none⟩ = some (.int .i64 (i : Int)) ∧ w'.cell? ⟨X, 4, none⟩ = some (.bool ln)) 8 (by kernel_rfl) ⟨q0, c3, x0, x1, x2, x3, x4⟩ (fun hT => ?_)
    clear q0 c3 x0 x1 x2 x3 x4
    refine wpAnyU_take (i := 0) (v := ?vu5) rfl (by kernel_rfl) (by kernel_rfl) (by kernel_rfl) (by kernel_rfl) (by kernel_rfl) (fun _ _ _ h => h) (Or.inl ⟨by rfl, ?hu5⟩) (by assumption) ?ru5
    case hu5 => (intro w9 hSw; (try dsimp only at hSw); go_simp; (try with_reducible rfl))
    simp only [Act.put, List.setIfInBounds_toArray, List.set_cons_zero, List.set_cons_succ]
    refine wpAnyU_take (i := 1) (v := ?vu6) rfl (by kernel_rfl) (by kernel_rfl) (by kernel_rfl) (by kernel_rfl) (by kernel_rfl) (fun _ _ _ h => h) (Or.inl ⟨by rfl, ?hu6⟩) (by assumption) ?ru6
    case hu6 => (intro w9 hSw; (try dsimp only at hSw); go_simp; (try with_reducible rfl))
    simp only [Act.put, List.setIfInBounds_toArray, List.set_cons_zero, List.set_cons_succ]
    refine wpAnyU_take (i := 2) (v := ?vu7) rfl (by kernel_rfl) (by kernel_rfl) (by kernel_rfl) (by kernel_rfl) (by kernel_rfl) (fun _ _ _ h => h) (Or.inl ⟨by rfl, ?hu7⟩) (by assumption) ?ru7
    case hu7 => (intro w9 hSw; (try dsimp only at hSw); go_simp; (try with_reducible rfl))
    simp only [Act.put, List.setIfInBounds_toArray, List.set_cons_zero, List.set_cons_succ]
    refine wpAnyU_take (i := 3) (v := ?vu8) rfl (by kernel_rfl) (by kernel_rfl) (by kernel_rfl) (by kernel_rfl) (by kernel_rfl) (fun _ _ _ h => h) (Or.inl ⟨by rfl, ?hu8⟩) (by assumption) ?ru8
    case hu8 => (intro w9 hSw; (try dsimp only at hSw); go_simp; (try with_reducible rfl))
    simp only [Act.put, List.setIfInBounds_toArray, List.set_cons_zero, List.set_cons_succ]
    refine wpAnyU_take (i := 4) (v := ?vu9) rfl (by kernel_rfl) (by kernel_rfl) (by kernel_rfl) (by kernel_rfl) (by kernel_rfl) (fun _ _ _ h => h) (Or.inl ⟨by rfl, ?hu9⟩) (by assumption) ?ru9
    case hu9 => (intro w9 hSw; (try dsimp only at hSw); go_simp; (try with_reducible rfl))
    simp only [Act.put, List.setIfInBounds_toArray, List.set_cons_zero, List.set_cons_succ]
    refine wpAnyU_take (i := 5) (v := ?vu10) rfl (by kernel_rfl) (by kernel_rfl) (by kernel_rfl) (by kernel_rfl) (by kernel_rfl) (fun _ _ _ h => h) (Or.inl ⟨by rfl, ?hu10⟩) (by assumption) ?ru10
    case hu10 => (intro w9 hSw; (try dsimp only at hSw); go_simp; (try with_reducible rfl))
    simp only [Act.put, List.setIfInBounds_toArray, List.set_cons_zero, List.set_cons_succ]
    refine wpAnyU_next (i := 6) (by kernel_rfl) rfl (fun K hK => ?_)
    go_simp
    refine hK.out _ _ ?_ (fun hT => ?_)
    clear hK K
    try simp only [Act.put, List.setIfInBounds_toArray, List.set_cons_zero, List.set_cons_succ]
    · exact ⟨bk_cell QA 0 _ rfl, KA.c3, bk_cell XA 0 _ rfl, bk_cell XA 1 _ rfl, bk_cell XA 2 _ rfl, bk_cell XA 3 _ rfl, bk_cell XA 4 _ rfl⟩
    refine wpAnyU_next (i := 7) (by kernel_rfl) rfl (fun K hK => ?_)
    refine step_append_lies _ (by rfl) _ _ _ (by rfl) w0.heap.size 31 i0 z0 5 48 Tryz.underlying25 hi0 hz0 hz1 hz2 hzs (by omega) (.slice va m vc) m xs (by rfl) RB ⟨wc.heap.size, 0, none⟩ 1 1 [.int .i64 kd, .string ⟨tx.toArray⟩, .float .f64 y, .int .i64 (i : Int), .bool ln] (by rfl) (by rfl) (World.news_of_block (cs := #[.int .i64 kd, .string ⟨tx.toArray⟩, .float .f64 y, .int .i64 (i : Int), .bool ln]) (t := 31) (fr := (0, 0)) NB) (by simp [Value.oneCell']) (by omega) (by unfold maxLen; omega) (by omega) hBB (wc.heap.size + 1) (by simp) ?_
    intro gg cap w11 hown11 hgrow hat hlt11
    have K11 := (hgrow.block p (Nat.lt_of_lt_of_le hpn Pd.size) (fun e => hvp e.symm)).trans KA
    have KQ := (hgrow.block q (Nat.lt_of_lt_of_le hqn Pd.size) (fun e => hvq e.symm)).trans QA
    have KX := (hgrow.block X (Nat.lt_of_lt_of_le (bk_lt X5) Pd.size) (fun e => hvXX e.symm)).trans XA
    refine hK.out _ _ ?_ (fun hT => ?_)
    clear hK K
    try simp only [Act.put, List.setIfInBounds_toArray, List.set_cons_zero, List.set_cons_succ]
    · exact ⟨bk_cell KQ 0 _ rfl, bk_cell K11 3 _ rfl, bk_cell KX 0 _ rfl, bk_cell KX 1 _ rfl, bk_cell KX 2 _ rfl, bk_cell KX 3 _ rfl, bk_cell KX 4 _ rfl⟩
    refine wpAnyU_tail 8 (by kernel_rfl) ?_
    simp only [List.drop_succ_cons, List.drop_zero]
    have q8 := bk_free K11 3
    have q9 := bk_cell K11 3 _ rfl
    have K12 : Lb (w11.setCell ⟨p, 3, none⟩ (.slice (some ⟨gg, 0, none⟩) (m + 1) cap)) p l j false (.slice (some ⟨gg, 0, none⟩) (m + 1) cap) := bk_set K11 3 _
    have hgp : gg ≠ p := by
      rcases hat with hat | hat
      · intro e
        exact hvp (e ▸ hat)
      · omega
    have G12 : Chg [p, X] w0 (w11.setCell ⟨p, 3, none⟩ (.slice (some ⟨gg, 0, none⟩) (m + 1) cap)) := ((GG.trans (Chg.of_pur Pd)).grown hgrow (fun b hb => .inr (hvl b hb).1)).setCell (.inl (by simp)) _
    have P12 : Pur w0 (w11.setCell ⟨p, 3, none⟩ (.slice (some ⟨gg, 0, none⟩) (m + 1) cap)) := G12.to_pur (fun b hb => by have := hb0.new; simp at hb; omega)
    have R12 := row_chg hown11 (chg1 p w11 3 (.slice (some ⟨gg, 0, none⟩) (m + 1) cap)) (fun g hg => by simp [Value.ownBlock] at hg; subst hg; simpa using hgp)
    clear hT QA KA XA RA RB NB Pd KX KQ hBB
    go_wp2
    replace hmid := hmid.out
    go_ret
    generalize hR : one C l i ln = R at hmid hC ⊢
    unfold OneMid at hmid
    rcases R with b | ⟨x, k⟩
    · obtain ⟨rfl, rfl⟩ := hmid
      exact ⟨rfl, P12⟩
    · obtain ⟨rfl, rfl, rfl, rfl, e1, e2, h1, h2⟩ := hmid
      rw [e1, e2] at R12
      exact ⟨rfl, P12, _, y, ⟨K12, R12, by simp [Value.ownBlock]; exact hgp, hb0.lw, hb0.new, P12⟩, h1, h2⟩
end Lx
end Go.Proofs.YtepmneongpbglaaGreatDoor
