/- The library's decimal, shifted to the right. The library's decimal, shifted to the left: the cutoff compared. -/
import Derived.Test.YtclaoeoofbobmaaGreatDoorDcX
import Derived.Deep.CutBlock
import Derived.WalkMore
namespace Go.Proofs.YtclaoeoofbobmaaGreatDoor
open Go Go.RowKit
set_option linter.all false
namespace Dc
theorem cdiv (n k : Nat) : (n : Int) / 2 ^ k = ((n / 2 ^ k : Nat) : Int) := by rw [Int.natCast_ediv, Int.natCast_pow]; rfl
/-- while the last digits are put down -/
def QE (k nd q b : Nat) (w : World) (dp : Int) (T : List Nat × Nat × Bool) (f : Nat) (v n : Value) (wr : World) : Prop :=
  ∃ (j m : Nat) (E : List Nat) (t : Bool), v = .int .i64 (j : Int) ∧ n = .int .u64 (m : Int) ∧ f ≤ 80 ∧ 2 ^ (80 - f) ∣ m ∧ MI k nd q E j m ∧ DW wr b ⟨E, nd, dp, t⟩ ∧ Chg [b] w wr ∧ Hid (T = extra k f E j m t)
end Dc
end Go.Proofs.YtclaoeoofbobmaaGreatDoor
namespace Go.Proofs.YtclaoeoofbobmaaGreatDoor
open Go Go.RowKit
set_option linter.all false
namespace Dc
theorem getD_by8 (s : List UInt8) (i : Nat) : (s.map UInt8.toNat).getD i 0 = by8 s i := by
  unfold by8
  rw [List.getD_eq_getElem?_getD, List.getElem?_map]
  by_cases h : i < s.length
  · simp [List.getD_eq_getElem?_getD, List.getElem?_eq_getElem h]
  · simp [List.getD_eq_getElem?_getD, List.getElem?_eq_none (Nat.le_of_not_lt h)]
set_option maxRecDepth 100000 in
set_option maxHeartbeats 4000000 in
theorem prefix_any {w : World} {b : Nat} {x : Dec} {s : List UInt8} (h : DW w b x) (hn : x.nd ≤ 800) (hs : s.length ≤ 1000) :
    Calls Tryz.prog 205 #[.slice (some ⟨b, 0, none⟩) x.nd 800, .string ⟨s.toArray⟩] w fun e w' => e = .returned (.bool (pl x.D x.nd (s.map UInt8.toNat) 0)) ∧ Pur w w' := by
  obtain ⟨D, nd, dp, tr⟩ := x
  simp only at hn ⊢
  obtain ⟨R, hR⟩ : ∃ R, pl D nd (s.map UInt8.toNat) 0 = R := ⟨_, rfl⟩
  have HR := Lib.hid (show R = pl D nd (s.map UInt8.toNat) 0 from hR.symm)
  rw [hR]
  have hB := h.B
  simp only at hB
  clear hR
  go_enter Tryz.func205, Tryz.ntmps205
  go_wp2
  go_loopw [5] (fun i wr => ∃ (k : Nat), i = .int .i64 (k : Int) ∧ k ≤ s.length ∧ Pur w wr ∧ Hid (R = pl D nd (s.map UInt8.toNat) k)) (fun i wr => 2000 - (intOf i).toNat)
  case atStart => exact ⟨0, rfl, by omega, Pur.refl _, HR⟩
  case round =>
    obtain ⟨k, rfl, hk, hp, HS⟩ := hrel
    clear HR
    have hw := h.pur hp
    by_cases c : k < s.length
    · have c' : (k : Int) < s.length := by omega
      by_cases a : nd ≤ k
      · have a' : decide ((nd : Int) ≤ (k : Int)) = true := by rw [decide_eq_true_eq]; omega
        have HN := Lib.hid (show R = true by rw [HS.out, pl, if_pos (by rw [List.length_map]; exact c), if_pos a])
        clear HS
        go_wp2
        go_ret
        rw [HN.out]
        exact ⟨rfl, hp⟩
      · have a' : decide ((nd : Int) ≤ (k : Int)) = false := by rw [decide_eq_false_iff_not]; omega
        have ck := fun x : PW wr => (hw.pur x.pur).cd (i := k) (by omega)
        simp only at ck
        have kn : (k : Int) < (nd : Int) := by omega
        have k0 : (0 : Int) ≤ (k : Int) := by omega
        have hb := by8_lt s k
        have h256 := hB.2 k
        by_cases e : dg D k ≠ by8 s k
        · have HN := Lib.hid (show R = decide (dg D k < by8 s k) by rw [HS.out, pl, if_pos (by rw [List.length_map]; exact c), if_neg a, getD_by8, if_pos e])
          have d1 : ((dg D k : Int) != (by8 s k : Int)) = true := by rw [bne_iff_ne]; omega
          clear HS e
          go_wp2
          refine wp_region_pur (by kernel_rfl) (by kernel_rfl) ?_
          repeat (go_big_quiet_step (fail))
          refine wpQuiet_nil ?_
          intro wq hq
          have ck2 := fun x : PW wq => (hw.pur (hq.trans x.pur)).cd (i := k) (by omega)
          simp only at ck2
          go_wp2
          refine wp_region_pur (by kernel_rfl) (by kernel_rfl) ?_
          repeat (go_big_quiet_step (fail))
          refine wpQuiet_nil ?_
          intro wz hz
          go_wp2
          go_ret
          rw [HN.out]
          exact ⟨rfl, (hp.trans hq).trans hz⟩
        · have HN := Lib.hid (show R = pl D nd (s.map UInt8.toNat) (k + 1) by rw [HS.out, pl, if_pos (by rw [List.length_map]; exact c), if_neg a, getD_by8, if_neg e])
          have d1 : ((dg D k : Int) != (by8 s k : Int)) = false := by rw [bne_eq_false_iff_eq]; omega
          have wk : IntKind.i64.wrap ((k : Int) + 1) = (k : Int) + 1 := IntWalk.i64_in _ (by omega)
          clear HS e
          go_wp2
          refine wp_region_pur (by kernel_rfl) (by kernel_rfl) ?_
          repeat (go_big_quiet_step (fail))
          refine wpQuiet_nil ?_
          intro wq hq
          have hp2 := hp.trans hq
          go_wp2
          go_roundw
          case rel => exact ⟨k + 1, by push_cast; rfl, by omega, hp2, HN⟩
          case measure => simp [intOf]; omega
    · have c' : ¬ (k : Int) < s.length := by omega
      have HN := Lib.hid (show R = false by rw [HS.out, pl, if_neg (by rw [List.length_map]; exact c)])
      clear HS
      go_wp2
      go_ret
      rw [HN.out]
      exact ⟨rfl, hp⟩
/-- the bytes of a cutoff -/
def cutB (k : Nat) : List UInt8 := (cut k).map UInt8.ofNat
/-- the table of the cutoffs, as the library lays it -/
structure LCT (w : World) : Prop where
  sl : ∃ g o c, w.cell? ⟨16, 0, none⟩ = some (.slice (some ⟨g, o, none⟩) 61 c) ∧
    ∀ k, k < 61 → w.cell? ⟨g, o + k * 2, none⟩ = some (.int .i64 (dlt k : Int)) ∧ w.cell? ⟨g, o + k * 2 + 1, none⟩ = some (.string ⟨(cutB k).toArray⟩)
theorem cell_pur {w w' : World} {a : Addr} {v : Value} (h : w.cell? a = some v) (hp : Pur w w') : w'.cell? a = some v := (hp.cell (World.block_lt_of_cell? w a h)).trans h
theorem LCT.pur {w w' : World} (h : LCT w) (hp : Pur w w') : LCT w' := by
  obtain ⟨g, o, c, h1, h2⟩ := h.sl
  exact ⟨g, o, c, cell_pur h1 hp, fun k hk => ⟨cell_pur (h2 k hk).1 hp, cell_pur (h2 k hk).2 hp⟩⟩
end Dc
end Go.Proofs.YtclaoeoofbobmaaGreatDoor
