/- Layer 5: a script's lexemes. -/
import Derived.Test.YtepmneongpbglaaGreatDoorLk13
import Derived.Test.YtepmneongpbglaaGreatDoorLk4
import Derived.Test.YtepmneongpbglaaGreatDoorLxP
namespace Go.Proofs.YtepmneongpbglaaGreatDoor
open Go Go.RowKit
set_option linter.all false
namespace Lx
theorem NC.pur {w0 w : World} {N : List UInt8 → Nat → Prop} {C : List UInt8 → Bool} (h : NC w0 N C) (hp : Pur w0 w) : NC w N C := fun t ht w' hw => h t ht w' (hp.trans hw)
/-- lexemes with what their numbers were said to be -/
def NumOk (N : List UInt8 → Nat → Prop) (zs : List (Lx × Nat)) : Prop := ∀ z ∈ zs, (z.1.kind = 3 → N z.1.num z.2) ∧ (z.1.kind ≠ 3 → z.2 = 0)
def rowOf (zs : List (Lx × Nat)) : List Value := zs.flatMap fun z => z.1.cells z.2
/-- how Lex ends -/
def LexPost (N : List UInt8 → Nat → Prop) (w : World) (r : Option (Except Nat (List Lx))) (e : Ending) (w' : World) : Prop := match r with
  | some (.ok xs) => Pur w w' ∧ ∃ (v : Value) (zs : List (Lx × Nat)), zs.map Prod.fst = xs ∧ NumOk N zs ∧ e = .returned (.tuple #[v, .int .i64 0, .int .i64 0]) ∧ w'.ownsRow w.heap.size 31 5 v zs.length (rowOf zs)
  | some (.error k) => Pur w w' ∧ e = .returned (.tuple #[.slice none 0 0, .int .i64 (k : Int), .int .i64 50])
  | none => True
set_option maxRecDepth 100000 in
theorem lex_long (l : List UInt8) (w : World) (hl : 8192 < l.length) : Calls Tryz.prog 14 #[.string ⟨l.toArray⟩] w fun e w' => e = .returned (.tuple #[.slice none 0 0, .int .i64 0, .int .i64 2]) ∧ Pur w w' := by
  have d1 : decide ((8192 : Int) < (l.length : Int)) = true := by simp; omega
  go_enter Tryz.func14, Tryz.ntmps14
  go_wp2
  go_ret3
  exact ⟨rfl, Pur.refl _⟩
set_option maxRecDepth 100000 in
set_option maxHeartbeats 16000000 in
theorem lex_any {N : List UInt8 → Nat → Prop} {C : List UInt8 → Bool} (l : List UInt8) (w : World) (hW : LW w) (hN : NC w N C) (hl : l.length ≤ 8192) (hC : lex C l ≠ none) :
    Calls Tryz.prog 14 #[.string ⟨l.toArray⟩] w fun e w' => LexPost N w (lex C l) e w' := by
  have d1 : decide ((8192 : Int) < (l.length : Int)) = false := by simp; omega
  obtain ⟨W1, hW1⟩ : ∃ W1, W1 = w.alloc (.cells #[.string ⟨l.toArray⟩, .int .i64 0, .bool false, .slice none 0 0] 39) := ⟨_, rfl⟩
  have p1 : Pur w W1 := by rw [hW1]; exact (Pur.refl _).alloc _
  have L1 : La w W1 w.heap.size l 0 false (.slice none 0 0) 0 [] := by
    refine ⟨by rw [hW1]; exact bk_new _ _, World.ownsRow_nil _ _ _ _, by simp [Value.ownBlock], hW, Nat.le_refl _, p1⟩
  go_enter Tryz.func14, Tryz.ntmps14
  go_wp2
  rw [← hW1]
  clear hW1 p1
  generalize hp : w.heap.size = p at *
  go_loopw [6] (fun _ wr => ∃ (i f : Nat) (v : Value) (zs : List (Lx × Nat)), i ≤ l.length ∧ l.length < i + f ∧ zs.length ≤ i ∧ La w wr p l i false v zs.length (rowOf zs) ∧ Hid (NumOk N zs) ∧ Hid (lex C l = (lexGo C l f i).map fun r => r.map (zs.map Prod.fst ++ ·))) (fun _ wr => l.length + 1 - natAt wr ⟨p, 1, none⟩)
  case atStart => exact ⟨0, l.length + 1, _, [], by omega, by omega, by simp, L1, Lib.hid (fun z hz => by cases hz), Lib.hid (by unfold lex; cases lexGo C l (l.length + 1) 0 with | none => rfl | some r => cases r <;> rfl)⟩
  case round =>
    obtain ⟨i, f, v, zs, i1, i2, i3, h, HZ, H⟩ := hrel
    obtain ⟨f, rfl⟩ : ∃ g, f = g + 1 := ⟨f - 1, by omega⟩
    clear L1
    have BL := blanks_any h.lb h.b i1 (by omega)
    have hnat := h.lb.nat
    rcases hs : skipGo l (l.length + 1) i false with k | ⟨j, b⟩
    · have HS := Lib.hid (show lex C l = some (.error k) by rw [H.out, lexGo, show skip l i = .error k from hs]; rfl)
      rw [hs] at BL
      clear H hs hC
      unfold BlkPost at BL
      go_wp2_with fail
      refine BL.mono ?_
      rintro e w2 ⟨rfl, ⟨j, b, k2⟩, g2⟩
      have P2 := (h.b.chg g2).pur
      go_wp2
      go_ret3
      rw [HS.out]
      exact ⟨P2, rfl⟩
    · have hj := skipGo_le l _ _ _ _ _ hs i1
      have HS := Lib.hid (show lex C l = (if j = l.length then some (.ok []) else match one C l j b with | .error true => none | .error false => some (.error j) | .ok (x, k) => (lexGo C l f k).map fun r => r.map (x :: ·)).map fun r => r.map (zs.map Prod.fst ++ ·) by
        rw [H.out, lexGo, show skip l i = .ok (j, b) from hs]
        rfl)
      rw [hs] at BL
      clear H hs
      unfold BlkPost at BL
      go_wp2_with fail
      refine BL.mono ?_
      rintro e w2 ⟨rfl, k2, g2⟩
      have h2 := h.chg g2 k2
      clear BL h
      have c1 := k2.c1
      have c3 := k2.c3
      by_cases hjl : j = l.length
      · have HS2 := Lib.hid (show lex C l = some (.ok (zs.map Prod.fst)) by rw [HS.out, if_pos hjl]; simp [Except.map])
        have d2 : ((j : Int) == (l.length : Int)) = true := by rw [beq_iff_eq]; omega
        clear HS hjl hC
        go_wp2
        go_ret3
        rw [HS2.out]
        exact ⟨h2.b.pur, v, zs, rfl, HZ.out, rfl, by rw [hp]; exact hp ▸ h2.row⟩
      · have d2 : ((j : Int) == (l.length : Int)) = false := by rw [beq_eq_false_iff_ne]; omega
        have hj2 : j < l.length := by omega
        rw [if_neg hjl] at HS
        have hone : one C l j b ≠ .error true := fun e => hC (by rw [HS.out, e]; rfl)
        have ON := one_any h2 hN hj2 (by omega) (by omega) hone
        unfold OnePost at ON
        clear hjl hC
        rcases ho : one C l j b with bb | ⟨x, k⟩
        · have hbb : bb = false := by cases bb with | false => rfl | true => exact absurd ho hone
          subst hbb
          rw [ho] at ON HS
          have HS2 := Lib.hid (show lex C l = some (.error j) from HS.out)
          clear HS ho hone
          go_wp2_with fail
          refine ON.mono ?_
          rintro e w3 ⟨rfl, p3⟩
          go_wp2
          go_ret3
          rw [HS2.out]
          exact ⟨p3, rfl⟩
        · have hk := one_ok ho hj2
          rw [ho] at ON HS
          have HS2 := Lib.hid (show lex C l = (lexGo C l f k).map fun r => r.map ((zs ++ [(x, 0)]).map Prod.fst ++ ·) by
            rw [HS.out]
            dsimp only
            cases lexGo C l f k with
            | none => rfl
            | some r => cases r <;> simp [Except.map])
          clear HS ho hone
          go_wp2_with fail
          refine ON.mono ?_
          rintro e w3 ⟨rfl, p3, v', y, h3, y1, y2⟩
          go_wp2
          go_roundw
          case rel => exact ⟨k, f, v', zs ++ [(x, y)], by omega, by omega, by simp; omega, by simpa [rowOf] using h3, Lib.hid (by
            intro z hz
            rcases List.mem_append.1 hz with hz | hz
            · exact HZ.out z hz
            · obtain rfl : z = (x, y) := by simpa using hz
              exact ⟨y1, y2⟩), by simpa using HS2⟩
          case measure => simp [hnat, h3.lb.nat]; omega
end Lx
end Go.Proofs.YtepmneongpbglaaGreatDoor
