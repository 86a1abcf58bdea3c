/- The law UtfParts: each call returns true, and turns nothing that was there. -/
import Derived.Test.YtipnlgcicdnhdaaDoorUtf10
namespace Go.Proofs.YtipnlgcicdnhdaaDoor
open Go Go.RowKit
/-- a struct of two numbers that the call has boxed -/
def BoxAt (w : World) (B : Nat) (i j : Int) : Prop := w.cell? ⟨B, 0, none⟩ = some (.int .i64 i) ∧ w.cell? ⟨B, 1, none⟩ = some (.int .i64 j) ∧ B < w.heap.size
theorem BoxAt.pur {w w' : World} {B : Nat} {i j : Int} (h : BoxAt w B i j) (hp : Pur w w') : BoxAt w' B i j :=
  ⟨(hp.cell h.2.2).trans h.1, (hp.cell h.2.2).trans h.2.1, Nat.lt_of_lt_of_le h.2.2 hp.size⟩
theorem BoxAt.new (w : World) (i j : Int) (T : TypeId) : BoxAt (w.alloc (.cells #[.int .i64 i, .int .i64 j] T)) w.heap.size i j := ⟨by simp, by simp, by simp⟩
theorem at_both (l : List UInt8) (i : Int) (hs : l.length ≤ 9223372036854775807) : ∃ (u r : Int) (b : Bool), (∀ w, Calls Tryd.prog 24 #[.string ⟨l.toArray⟩, .int .i64 i] w fun e w' => e = .returned (.int .i64 r) ∧ Pur w w') ∧ decide (0 ≤ r) = b ∧ (u != max r 0) = false ∧
    ∀ w, Calls Tryd.prog 19 #[.string ⟨l.toArray⟩, .int .i64 i] w fun e w' => e = .returned (.tuple #[.int .i64 u, .bool b]) ∧ Pur w w' := by
  by_cases h : 0 ≤ i ∧ i < (l.length / 2 : Nat)
  · obtain ⟨n, rfl⟩ := Int.eq_ofNat_of_zero_le h.1
    exact ⟨_, _, true, fun w => rat_in l n w hs (by omega), by simp, by simp, fun w => at_in l n w hs (by omega)⟩
  · exact ⟨0, -1, false, fun w => rat_out l i w hs (by omega), by decide, by decide, fun w => at_out l i w hs (by omega)⟩
theorem parts_law (l p : List UInt8) (i j : Int) (w : World) (hT : Lib.Utf8Tabs 0 1 w) (hl : l.length ≤ 140737488351232) (hm : p.length ≤ 140737488351232) :
    Calls Tryd.prog 10 #[.string ⟨l.toArray⟩, .string ⟨p.toArray⟩, .agg #[.int .i64 i, .int .i64 j]] w fun e w' => e = .returned (.bool true) ∧ Pur w w' := by
  have HT := Lib.hid hT
  clear hT
  by_cases hg : l.length ≤ 2000 ∧ p.length ≤ 2000
  · obtain ⟨g1, g2⟩ := hg
    have d1 : decide ((2000 : Int) < (l.length : Int)) = false := by simp; omega
    have d2 : decide ((2000 : Int) < (p.length : Int)) = false := by simp; omega
    obtain ⟨u, r, b, hr, hb, hu, ha⟩ := at_both l i (by omega)
    have HR := Lib.hid hr
    have HA := Lib.hid ha
    clear hr ha hl hm
    go_enter Tryd.func10, Tryd.ntmps10
    go_wp2_with fail
    refine (awake_any _ (Utf8Tabs_below HT.out ((Pur.refl w).alloc _))).mono ?_
    rintro e w1 ⟨rfl, hp1⟩
    have hb1 := (BoxAt.new w i j 49).pur hp1
    have hp1' : Pur w w1 := ((Pur.refl w).alloc _).trans hp1
    have c1 := hb1.1
    have HB1 := Lib.hid hb1
    clear hb1 hp1
    go_wp2_with fail
    refine (HA.out _).mono ?_
    rintro e w2 ⟨rfl, hp2⟩
    have hb2 := HB1.out.pur hp2
    have c2 := hb2.1
    have HB2 := Lib.hid hb2
    clear hb2 c1
    go_wp2_with fail
    refine (HR.out _).mono ?_
    rintro e w3 ⟨rfl, hp3⟩
    have hb3 := HB2.out.pur hp3
    have HP := Lib.hid (show Pur w w3 from (hp1'.trans hp2).trans hp3)
    have HB3 := Lib.hid hb3
    have hx0 : ∀ x : PW w3, x.to.cell? ⟨w.heap.size, 0, none⟩ = some (.int .i64 i) := fun x => (HB3.out.pur x.pur).1
    clear hb3 c2 hp2 hp3 hp1'
    have hb' : (b != decide (0 ≤ r)) = false := by rw [hb]; simp
    have hw1 : IntKind.i64.wrap ((l.length : Int) / 2) = (l.length : Int) / 2 := IntWalk.i64_in _ (by omega)
    go_wp2_with fail
    refine wp_region_pur (by kernel_rfl) (by kernel_rfl) ?_
    repeat (quiet_step ((first | (go_at_call 18; exact quiet_eq (length_any _ _ (by omega))) | (go_at_call 23; exact quiet_pur (find_any _ _ _ _ (by omega) (by omega))) | (go_at_call 25; exact quiet_pur (rfind_any _ _ _ _ (by omega) (by omega))))))
    refine wpQuiet_nil ?_
    intro w4 hp4
    have hb4 := HB3.out.pur hp4
    have HB4 := Lib.hid hb4
    have hy0 : ∀ x : PW w4, x.to.cell? ⟨w.heap.size, 0, none⟩ = some (.int .i64 i) := fun x => (HB4.out.pur x.pur).1
    have hy1 : ∀ x : PW w4, x.to.cell? ⟨w.heap.size, 1, none⟩ = some (.int .i64 j) := fun x => (HB4.out.pur x.pur).2.1
    clear hb4 hx0 hb' hb hu
    go_wp2_with fail
    refine wp_region_pur (by kernel_rfl) (by kernel_rfl) ?_
    repeat (quiet_step ((first | (go_at_call 20; exact quiet_pur (cut_any _ _ _ _ (by omega))) | (go_at_call 26; exact quiet_pur (rcut_any _ _ _ _ (by omega))) | (go_at_call 22; exact quiet_pur (lower_any _ _ (by omega))) | (go_at_call 21; exact quiet_pur (upper_any _ _ (by omega))) | (go_at_call 27; exact quiet_pur (rcase_any _ _ _ (by omega))))))
    refine wpQuiet_nil ?_
    intro w5 hp5
    go_wp2
    go_ret
    exact ⟨rfl, (HP.out.trans hp4).trans hp5⟩
  · have hx : 2000 < (l.length : Int) ∨ ((l.length : Int) ≤ 2000 ∧ 2000 < (p.length : Int)) := by omega
    clear hg hl hm
    rcases hx with q1 | ⟨q1, q2⟩
    all_goals
      go_enter Tryd.func10, Tryd.ntmps10
      go_wp2_with fail
      refine (awake_any _ (Utf8Tabs_below HT.out ((Pur.refl w).alloc _))).mono ?_
      rintro e w1 ⟨rfl, hp1⟩
      go_wp2
      go_ret
      exact ⟨rfl, ((Pur.refl w).alloc _).trans hp1⟩
end Go.Proofs.YtipnlgcicdnhdaaDoor
