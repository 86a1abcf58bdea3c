/- Layer 5: blanks and remarks. -/
import Derived.Test.YtepmneongpbglaaGreatDoorLk2
namespace Go.Proofs.YtepmneongpbglaaGreatDoor
open Go Go.RowKit
set_option linter.all false
namespace Lx
/-- the library's variables that a lexer reads -/
structure LW (w : World) : Prop where
  tabs : Lib.Utf8Tabs 3 4 w
  mx : ∃ m, w.cell? ⟨2, 0, none⟩ = some (.int .i64 m)
  marks : ∀ (k : Nat) m, marks[k]? = some m → w.cell? ⟨0, k, none⟩ = some (.string ⟨m.toArray⟩)
theorem cell_pur {w w' : World} {a : Addr} {v : Value} (h : w.cell? a = some v) (hp : Pur w w') : w'.cell? a = some v := (hp.cell (World.block_lt_of_cell? w a h)).trans h
theorem LW.pur {w w' : World} (h : LW w) (hp : Pur w w') : LW w' := by
  obtain ⟨h1, ⟨m, h2⟩, h3⟩ := h
  exact ⟨Utf8Tabs_below h1 hp, ⟨m, cell_pur h2 hp⟩, fun k m hm => cell_pur (h3 k m hm) hp⟩
/-- the library's variables since a world w0, of which the lexer's block is no part -/
structure LB (w0 : World) (p : Nat) (w : World) : Prop where
  lw : LW w0
  new : w0.heap.size ≤ p
  pur : Pur w0 w
theorem LB.w {w0 w : World} {p : Nat} (h : LB w0 p w) : LW w := h.lw.pur h.pur
theorem LB.chg {w0 w w' : World} {p : Nat} (h : LB w0 p w) (hc : Chg [p] w w') : LB w0 p w' :=
  ⟨h.lw, h.new, ((Chg.of_pur h.pur).trans hc).to_pur (fun b hb => by simp at hb; subst hb; exact h.new)⟩
theorem LB.purd {w0 w w' : World} {p : Nat} (h : LB w0 p w) (hp : Pur w w') : LB w0 p w' := ⟨h.lw, h.new, h.pur.trans hp⟩
/-- a character at a place, whether within or at the end -/
theorem next_any (l : List UInt8) (i : Nat) (w : World) (hT : LW w) : Calls Tryz.prog 29 #[.string ⟨l.toArray⟩, .int .i64 (i : Int)] w fun e w' => e = .returned (.tuple #[.int .i64 (chr l i).1, .int .i64 (chr l i).2, .bool (decide (0 < (chr l i).2))]) ∧ Pur w w' := by
  by_cases hi : i < l.length
  · exact next_in l i w hT.tabs hi
  · have e : chr l i = (0, 0) := by unfold chr; rw [if_pos (by omega)]
    rw [e]
    exact next_out l i w (.inr (by omega))
/-- how a remark ends -/
def RemPost (w : World) (p : Nat) (l : List UInt8) (i : Nat) (ln : Bool) (v : Value) (r : Option Bool) (e : Ending) (w' : World) : Prop := match r with
  | some b => e = .returned (.bool true) ∧ Lb w' p l i (ln || b) v ∧ Chg [p] w w'
  | none => e = .returned (.bool false) ∧ (∃ b, Lb w' p l i b v) ∧ Chg [p] w w'
theorem endsC_or (c : Nat) : endsC c = (((c : Int) == 10) || (((c : Int) == 13) || (((c : Int) == 8232) || ((c : Int) == 8233)))) := by
  rw [Bool.eq_iff_iff]
  simp only [endsC, Bool.or_eq_true, decide_eq_true_eq, beq_iff_eq]
  omega
set_option maxRecDepth 100000 in
set_option maxHeartbeats 8000000 in
theorem remark_any {w0 w : World} {p i : Nat} {l : List UInt8} {ln : Bool} {v : Value} (s : List UInt8) (h : Lb w p l i ln v) (B : LB w0 p w) (hs : s.length ≤ 1000000) :
    Calls Tryz.prog 32 #[.pointer (some ⟨p, 0, none⟩), .string ⟨s.toArray⟩] w fun e w' => RemPost w p l i ln v (remark s) e w' := by
  go_enter Tryz.func32, Tryz.ntmps32
  go_wp2
  go_loopw [5] (fun k wr => ∃ (j f : Nat) (b : Bool), j ≤ s.length ∧ s.length < j + f ∧ k = .int .i64 j ∧ Lb wr p l i (ln || b) v ∧ Chg [p] w wr ∧ Hid (remark s = (remGo s f j).map (b || ·))) (fun k _ => s.length + 1 - (intOf k).toNat)
  case atStart => exact ⟨0, s.length + 1, false, by omega, by omega, rfl, by simpa using h, Chg.refl _ _, Lib.hid (by unfold remark; cases remGo s (s.length + 1) 0 <;> simp)⟩
  case round =>
    obtain ⟨j, f, b, j2, jf, rfl, k, G, H⟩ := hrel
    obtain ⟨f, rfl⟩ : ∃ g, f = g + 1 := ⟨f - 1, by omega⟩
    by_cases hj : j < s.length
    · have hj' : (j : Int) < s.length := by omega
      have NX := next_any s j wr (B.chg G).w
      by_cases hn : (chr s j).2 = 0
      · have HS := Lib.hid (show remark s = none by rw [H.out, remGo, if_pos hj, if_pos hn]; rfl)
        rw [hn] at NX
        clear H hn
        go_wp2_with fail
        refine NX.mono ?_
        rintro e w1 ⟨rfl, p1⟩
        go_wp2
        go_ret
        rw [HS.out]
        exact ⟨rfl, ⟨_, k.pur p1⟩, G.pur p1⟩
      · have hn0 : 0 < (chr s j).2 := by omega
        have hce := chr_end hn
        have HS := Lib.hid (show remark s = (remGo s f (j + (chr s j).2)).map ((b || endsC (chr s j).1) || ·) by
          rw [H.out, remGo, if_pos hj, if_neg hn]
          cases remGo s f (j + (chr s j).2) <;> simp [Bool.or_assoc])
        have w1 : IntKind.i64.wrap ((j : Int) + ((chr s j).2 : Int)) = (j : Int) + ((chr s j).2 : Int) := IntWalk.i64_in _ (by omega)
        have he := endsC_or (chr s j).1
        generalize (chr s j).1 = c at *
        generalize (chr s j).2 = n at *
        rcases hE : endsC c with _ | _
        · have d1 : ((c : Int) == 10) = false := by rw [hE] at he; revert he; cases ((c : Int) == 10) <;> simp
          have d2 : ((c : Int) == 13) = false := by rw [hE] at he; revert he; cases ((c : Int) == 13) <;> simp
          have d3 : ((c : Int) == 8232) = false := by rw [hE] at he; revert he; cases ((c : Int) == 8232) <;> simp
          have d4 : ((c : Int) == 8233) = false := by rw [hE] at he; revert he; cases ((c : Int) == 8233) <;> simp
          rw [hE] at HS
          clear H hn he hE
          go_wp2_with fail
          refine NX.mono ?_
          rintro e w1 ⟨rfl, p1⟩
          go_wp2
          go_roundw
          case rel => exact ⟨j + n, f, b, by omega, by omega, by go_num, k.pur p1, G.pur p1, by simpa using HS⟩
          case measure => simp [intOf]; omega
        · have hk : (((c : Int) == 10) = true) ∨ (((c : Int) == 10) = false ∧ ((c : Int) == 13) = true) ∨ (((c : Int) == 10) = false ∧ ((c : Int) == 13) = false ∧ ((c : Int) == 8232) = true) ∨ (((c : Int) == 10) = false ∧ ((c : Int) == 13) = false ∧ ((c : Int) == 8232) = false ∧ ((c : Int) == 8233) = true) := by
            rw [hE] at he
            revert he
            cases ((c : Int) == 10) <;> cases ((c : Int) == 13) <;> cases ((c : Int) == 8232) <;> cases ((c : Int) == 8233) <;> simp
          rw [hE] at HS
          clear H hn he hE
          go_wp2_with fail
          refine NX.mono ?_
          rintro e w1 ⟨rfl, p1⟩
          have k1 := k.pur p1
          have f2 := k1.f 2
          have c2 := k1.c2
          have k2 := k1.setln true
          have G2 := (G.pur p1).trans (chg1 p w1 2 (.bool true))
          rcases hk with d1 | ⟨d1, d2⟩ | ⟨d1, d2, d3⟩ | ⟨d1, d2, d3, d4⟩
          all_goals
            go_wp2
            go_roundw
            case rel => exact ⟨j + n, f, true, by omega, by omega, by go_num, by simpa using k2, G2, by simpa using HS⟩
            case measure => simp [intOf]; omega
    · have hj' : ¬ (j : Int) < s.length := by omega
      have HS := Lib.hid (show remark s = some b by rw [H.out, remGo, if_neg hj]; simp)
      clear H
      go_wp2
      go_ret
      rw [HS.out]
      exact ⟨rfl, k, G⟩
/-- how the blanks end -/
def BlkPost (w : World) (p : Nat) (l : List UInt8) (v : Value) (r : Except Nat (Nat × Bool)) (e : Ending) (w' : World) : Prop := match r with
  | .ok (j, b) => e = .returned (.int .i64 (-1)) ∧ Lb w' p l j b v ∧ Chg [p] w w'
  | .error k => e = .returned (.int .i64 (k : Int)) ∧ (∃ j b, Lb w' p l j b v) ∧ Chg [p] w w'
theorem blankC_or (c : Nat) : blankC c = (((c : Int) == 9) || (((c : Int) == 11) || (((c : Int) == 12) || (((c : Int) == 32) || (((c : Int) == 160) || ((c : Int) == 65279)))))) := by
  rw [Bool.eq_iff_iff]
  simp only [blankC, Bool.or_eq_true, decide_eq_true_eq, beq_iff_eq]
  omega
theorem ends_or' (c : Nat) : ((((c : Int) == 10 || (c : Int) == 13) || (c : Int) == 8232) || (c : Int) == 8233) = endsC c := by
  rw [endsC_or]; simp only [Bool.or_assoc]
theorem blank_or' (c : Nat) : ((((((c : Int) == 9 || (c : Int) == 11) || (c : Int) == 12) || (c : Int) == 32) || (c : Int) == 160) || (c : Int) == 65279) = blankC c := by
  rw [blankC_or]; simp only [Bool.or_assoc]
theorem ends_way {c : Nat} (hE : endsC c = true) : (((c : Int) == 10) = true) ∨ (((c : Int) == 10) = false ∧ ((c : Int) == 13) = true) ∨ (((c : Int) == 10) = false ∧ ((c : Int) == 13) = false ∧ ((c : Int) == 8232) = true) ∨ (((c : Int) == 10) = false ∧ ((c : Int) == 13) = false ∧ ((c : Int) == 8232) = false ∧ ((c : Int) == 8233) = true) := by
  have he := endsC_or c
  rw [hE] at he
  revert he
  cases ((c : Int) == 10) <;> cases ((c : Int) == 13) <;> cases ((c : Int) == 8232) <;> cases ((c : Int) == 8233) <;> simp
theorem ends_no {c : Nat} (hE : endsC c = false) : ((c : Int) == 10) = false ∧ ((c : Int) == 13) = false ∧ ((c : Int) == 8232) = false ∧ ((c : Int) == 8233) = false := by
  have he := endsC_or c
  rw [hE] at he
  revert he
  cases ((c : Int) == 10) <;> cases ((c : Int) == 13) <;> cases ((c : Int) == 8232) <;> cases ((c : Int) == 8233) <;> simp
theorem blank_no {c : Nat} (hE : blankC c = false) : ((c : Int) == 9) = false ∧ ((c : Int) == 11) = false ∧ ((c : Int) == 12) = false ∧ ((c : Int) == 32) = false ∧ ((c : Int) == 160) = false ∧ ((c : Int) == 65279) = false := by
  have he := blankC_or c
  rw [hE] at he
  revert he
  cases ((c : Int) == 9) <;> cases ((c : Int) == 11) <;> cases ((c : Int) == 12) <;> cases ((c : Int) == 32) <;> cases ((c : Int) == 160) <;> cases ((c : Int) == 65279) <;> simp
theorem blank_way {c : Nat} (hE : blankC c = true) : c = 9 ∨ c = 11 ∨ c = 12 ∨ c = 32 ∨ c = 160 ∨ c = 65279 := by
  simpa [blankC] using hE
theorem index_any (b t : List UInt8) (w : World) (hW : LW w) (hs : b.length ≤ 1000000000) :
    Calls Tryz.prog 26 #[.string ⟨b.toArray⟩, .string ⟨t.toArray⟩] w fun e w' => e = .returned (.int .i64 (idxI (idx t b))) ∧ w = w' := by
  obtain ⟨m, hm⟩ := hW.mx
  refine (Tryz.strings_Index ⟨b.toArray⟩ ⟨t.toArray⟩ m w (by show b.toArray.size < _; simp; omega) hm).mono ?_
  rintro e w' ⟨rfl, rfl⟩
  refine ⟨?_, rfl⟩
  rw [← contains_idx]
theorem pref_any (b t : List UInt8) (w : World) : Calls Tryz.prog 30 #[.string ⟨b.toArray⟩, .string ⟨t.toArray⟩] w fun e w' => e = .returned (.bool (t.isPrefixOf b)) ∧ w = w' := by
  refine (Tryz.strings_HasPrefix ⟨b.toArray⟩ ⟨t.toArray⟩ w).mono ?_
  rintro e w' ⟨rfl, rfl⟩
  exact ⟨rfl, rfl⟩
end Lx
end Go.Proofs.YtepmneongpbglaaGreatDoor
