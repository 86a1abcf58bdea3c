/- strconv.FormatFloat at a finite float above 0, in the form d.ddde+dd. esnum.layout: digits laid out about their point. -/
import Derived.Test.YtapgibcdbggpkaaGreatDoorFt7
import Derived.Lib.AppendIntMem
import Derived.Lib.ItoaLen
namespace Go.Proofs.YtapgibcdbggpkaaGreatDoor
open Go Go.RowKit Go.Sort Go.Lib
set_option linter.all false
namespace Ft
open Us
/-- an owned row of bytes, as a text -/
theorem str_of_own {w : World} {B g cap : Nat} (l : List UInt8) (h : w.ownsRow B 5 1 (.slice (some ⟨g, 0, none⟩) l.length cap) l.length (byteCells l)) :
    (convert 122 9 (.slice (some ⟨g, 0, none⟩) l.length cap)).run Tryz.prog w = .ok (.string ⟨l.toArray⟩) w := by
  have hm : (l.map fun b => ((b.toNat : Nat) : Int)).map B8 = l := by
    rw [List.map_map]
    conv => rhs; rw [← List.map_id l]
    exact List.map_congr_left fun b _ => B8_toNat b
  rw [run_str_of_cells w 122 9 5 ⟨g, 0, none⟩ l.length cap (l.map fun b => ((b.toNat : Nat) : Int)) (by simp) Tryz.underlying122 Tryz.underlying5 Tryz.underlying9 fun j hj => ?_, hm]
  rw [add_plain, Nat.zero_add, h.cellAt j (by omega)]
  unfold byteCells
  simp [hj]
theorem fo_pos (Hi Lo : Nat → Nat) (b : Nat) : 0 < (fo Hi Lo b).length := by
  unfold fo sci
  simp
  omega
set_option maxRecDepth 100000 in
set_option maxHeartbeats 8000000 in
theorem fmt_any {Hi Lo : Nat → Nat} {w : World} (b : Nat) (hT : PT Hi Lo w) (hB : Big Hi Lo) (hg : 15 < w.heap.size) (htab : Lib.TabIs Tryz.prog w "internal/strconv.uint64pow10" .u64 Lib.pow10Tab)
    (h0 : 0 < b) (h1 : b < 9218868437227405312) :
    Calls Tryz.prog 96 #[.float .f64 b, .int .u8 101, .int .i64 (-1), .int .i64 64] w fun e w' => e = .returned (.string ⟨(fo Hi Lo b).toArray⟩) ∧ Pur w w' := by
  obtain ⟨i0, hi, hz0, hz1, hz2⟩ := info_parts u8i
  have mx : max (3 : Int) 24 = 24 := by decide
  obtain ⟨CS, hCS, hmk⟩ : ∃ CS : Array Value, CS.size = 24 * 1 ∧ ∀ w : World, (Instr.makeSlice 122 (.int .i64 0) (.int .i64 24)).run Tryz.prog w = .ok (.slice (some ⟨w.heap.size, 0, none⟩) 0 24) (w.alloc (.cells CS 5)) := by
    refine ⟨madeCells (Value.int .u8 0).cells (24 * 1), ?_, fun w => ?_⟩
    · unfold madeCells; simp
    · have := run_makeSlice (P := Tryz.prog) w 122 5 i0 (.int .u8 0) Tryz.underlying122 hi hz0 .i64 .i64 0 24 (by omega) (by omega) (by rw [hz1]; omega) (by rw [hz2]; omega) (by omega)
      rw [this, hz1]
      rfl
  obtain ⟨W1, hW1⟩ : ∃ W1, W1 = w.alloc (.cells CS 5) := ⟨_, rfl⟩
  have P1 : Pur w W1 := by rw [hW1]; exact (Pur.refl _).alloc _
  have O1 : W1.ownsRow w.heap.size 5 1 (.slice (some ⟨w.heap.size, 0, none⟩) 0 24) 0 [] := by
    rw [hW1]; exact World.ownsRow_made (base := w.heap.size) (e := 5) (size := 1) w CS 24 (Nat.le_refl _) (by decide) hCS
  have hs1 : w.heap.size < W1.heap.size := by rw [hW1]; show _ < (w.heap.push _).size; rw [Array.size_push]; omega
  have FA := ftoa_any (B := w.heap.size) (w := W1) b (hT.pur P1) hB (Nat.lt_trans hg hs1) (TabIs_below (g := 5) (by kernel_rfl) htab P1) h0 h1 O1 (Nat.le_of_lt hs1) (fun g hg => by
    simp only [Value.ownBlock, Option.some.injEq] at hg
    omega)
  clear hT hB hg htab
  go_enter Tryz.func96, Tryz.ntmps96
  go_wp2_with fail
  rw [← hW1]
  refine FA.mono ?_
  rintro e w2 ⟨v', rfl, O2, b2⟩
  obtain ⟨g, cap, rfl, -, -⟩ := O2.form (fo_pos Hi Lo b)
  have SC := str_of_own (fo Hi Lo b) O2
  have P2 : Pur w w2 := Below.trans P1 b2
  clear O2 b2 FA
  obtain ⟨F, hF⟩ : ∃ F, fo Hi Lo b = F := ⟨_, rfl⟩
  rw [hF] at SC ⊢
  have hF := Lib.hid hF
  go_wp2
  go_ret
  rw [hF.out]
  exact ⟨rfl, P2⟩
set_option maxRecDepth 100000 in
theorem format_any {Hi Lo : Nat → Nat} {w : World} (b : Nat) (hT : PT Hi Lo w) (hB : Big Hi Lo) (hg : 15 < w.heap.size) (htab : Lib.TabIs Tryz.prog w "internal/strconv.uint64pow10" .u64 Lib.pow10Tab)
    (h0 : 0 < b) (h1 : b < 9218868437227405312) :
    Calls Tryz.prog 77 #[.float .f64 b, .int .u8 101, .int .i64 (-1), .int .i64 64] w fun e w' => e = .returned (.string ⟨(fo Hi Lo b).toArray⟩) ∧ Pur w w' := by
  have FM := fmt_any b hT hB hg htab h0 h1
  clear hT hB htab
  go_enter Tryz.func77, Tryz.ntmps77
  go_wp2_with fail
  refine FM.mono ?_
  rintro e w2 ⟨rfl, p2⟩
  go_wp2
  go_ret
  exact ⟨rfl, p2⟩
end Ft
end Go.Proofs.YtapgibcdbggpkaaGreatDoor
namespace Go.Proofs.YtapgibcdbggpkaaGreatDoor
open Go Go.RowKit Go.Sort Go.Lib
set_option linter.all false
namespace Ft
open Us
/-- digits whose point stands behind n of them -/
def lay (T : List UInt8) (n : Int) : List UInt8 :=
  if (T.length : Int) ≤ n ∧ n ≤ 21 then T ++ Lib.repeatL [48] (n - T.length).toNat
  else if 0 < n ∧ n ≤ 21 then Go.Proofs.YtapgibcdbggpkaaGreatDoor.sub T 0 n.toNat ++ (46 :: Go.Proofs.YtapgibcdbggpkaaGreatDoor.sub T n.toNat T.length)
  else if -6 < n ∧ n ≤ 0 then 48 :: 46 :: (Lib.repeatL [48] (-n).toNat ++ T)
  else (Go.Proofs.YtapgibcdbggpkaaGreatDoor.sub T 0 1 ++ if 1 < T.length then 46 :: Go.Proofs.YtapgibcdbggpkaaGreatDoor.sub T 1 T.length else []) ++ (if n - 1 < 0 then 101 :: 45 :: Lib.itoa (1 - n) else 101 :: 43 :: Lib.itoa (n - 1))
theorem rep_len (c : UInt8) : ∀ k, (Lib.repeatL [c] k).length = k
  | 0 => rfl
  | k + 1 => by rw [Lib.repeatL, List.length_append, rep_len c k]; simp; omega
set_option maxRecDepth 100000 in
set_option maxHeartbeats 16000000 in
theorem layA {w : World} (T : List UInt8) (n : Nat) (h1 : T.length ≤ n) (h2 : n ≤ 21) :
    Calls Tryz.prog 79 #[.string ⟨T.toArray⟩, .int .i64 (n : Int)] w fun e w' => e = .returned (.string ⟨(lay T n).toArray⟩) ∧ Pur w w' := by
  have hl := Lib.hid (show lay T n = T ++ Lib.repeatL [48] (n - T.length) by unfold lay; rw [if_pos ⟨by omega, by omega⟩]; congr 2; omega)
  obtain ⟨k, hk⟩ : ∃ k, n - T.length = k := ⟨_, rfl⟩
  have RP := fun w => Tryz.strings_Repeat ⟨#[48]⟩ k w (by omega) (by show 1 * k ≤ _; omega)
  have wk : IntKind.i64.wrap ((n : Int) - (T.length : Int)) = (k : Int) := by rw [show (n : Int) - (T.length : Int) = (k : Int) by omega]; exact IntWalk.i64_in _ (by omega)
  have d1 : decide ((T.length : Int) ≤ (n : Int)) = true := by rw [decide_eq_true_eq]; omega
  have d2 : decide ((n : Int) ≤ 21) = true := by rw [decide_eq_true_eq]; omega
  rw [hk] at hl
  have hrl : (Lib.repeatL [48] k).length ≤ 1000 := by rw [rep_len]; omega
  have z1 : ¬ 9223372036854775807 < T.length + (Lib.repeatL [48] k).length := by omega
  clear hk hrl
  go_enter Tryz.func79, Tryz.ntmps79
  go_wp2_with fail
  refine (RP _).mono ?_
  rintro e w1 ⟨rfl, p1⟩
  go_wp2
  go_ret
  rw [hl.out]
  exact ⟨rfl, p1⟩
set_option maxRecDepth 100000 in
set_option maxHeartbeats 16000000 in
theorem layB {w : World} (T : List UInt8) (n : Nat) (h1 : n < T.length) (h2 : n ≤ 21) (h0 : 0 < n) (h3 : T.length ≤ 1000) :
    Calls Tryz.prog 79 #[.string ⟨T.toArray⟩, .int .i64 (n : Int)] w fun e w' => e = .returned (.string ⟨(lay T n).toArray⟩) ∧ Pur w w' := by
  have hl := Lib.hid (show lay T n = Go.Proofs.YtapgibcdbggpkaaGreatDoor.sub T 0 n ++ (46 :: Go.Proofs.YtapgibcdbggpkaaGreatDoor.sub T n T.length) by unfold lay; rw [if_neg (by omega), if_pos ⟨by omega, by omega⟩]; rfl)
  have d1 : decide ((T.length : Int) ≤ (n : Int)) = false := by rw [decide_eq_false_iff_not]; omega
  have d1' : ¬ T.length ≤ n := by omega
  have d2 : decide ((n : Int) ≤ 21) = true := by rw [decide_eq_true_eq]; omega
  have d3 : decide ((0 : Int) < (n : Int)) = true := by rw [decide_eq_true_eq]; omega
  have d3' : ¬ n = 0 := by omega
  have a1 : (0 : Int) ≤ (n : Int) := by omega
  have a2 : (n : Int) ≤ (T.length : Int) := by omega
  have a3 : n ≤ T.length := by omega
  go_enter Tryz.func79, Tryz.ntmps79
  go_wp2
  refine wp_region_pur (by kernel_rfl) (by kernel_rfl) ?_
  repeat (first | (quiet_step (fail)) | (refine wpQuiet_step (fun K hK => ?_); go_simp; apply Exists.intro; refine ⟨fun _ => ?_, hK _ ?_⟩; (rw [if_neg (by omega)]; exact ⟨rfl, rfl⟩); clear hK K))
  refine wpQuiet_nil ?_
  intro wq hq
  go_wp2
  go_ret
  rw [hl.out]
  exact ⟨rfl, hq⟩
set_option maxRecDepth 100000 in
set_option maxHeartbeats 16000000 in
theorem layC {w : World} (T : List UInt8) (k : Nat) (h1 : 1 ≤ T.length) (h2 : T.length ≤ 1000) (h3 : k ≤ 5) :
    Calls Tryz.prog 79 #[.string ⟨T.toArray⟩, .int .i64 (-(k : Int))] w fun e w' => e = .returned (.string ⟨(lay T (-(k : Int))).toArray⟩) ∧ Pur w w' := by
  have hl := Lib.hid (show lay T (-(k : Int)) = 48 :: 46 :: (Lib.repeatL [48] k ++ T) by
    unfold lay
    rw [if_neg (by omega), if_neg (by omega), if_pos ⟨by omega, by omega⟩, Int.neg_neg, Int.toNat_natCast])
  have RP := fun w => Tryz.strings_Repeat ⟨#[48]⟩ k w (by omega) (by show 1 * k ≤ _; omega)
  have hrl := rep_len 48 k
  have d1 : decide ((T.length : Int) ≤ -(k : Int)) = false := by rw [decide_eq_false_iff_not]; omega
  have d2 : decide (-(k : Int) ≤ 21) = true := by rw [decide_eq_true_eq]; omega
  have d3 : decide ((0 : Int) < -(k : Int)) = false := by rw [decide_eq_false_iff_not]; omega
  have d4 : decide ((-6 : Int) < -(k : Int)) = true := by rw [decide_eq_true_eq]; omega
  have d5 : decide (-(k : Int) ≤ 0) = true := by rw [decide_eq_true_eq]; omega
  have w1 : IntKind.i64.wrap (k : Int) = (k : Int) := IntWalk.i64_in _ (by omega)
  have w2 : IntKind.i64.wrap (-(-(k : Int))) = (k : Int) := by rw [Int.neg_neg]; exact w1
  have hrl2 := Lib.hid hrl
  have z1 : ¬ 9223372036854775807 < 2 + (Lib.repeatL [48] k).length := by omega
  have z2 : ¬ 9223372036854775807 < (Lib.repeatL [48] k).length + 1 + 1 := by omega
  have z3 : ¬ 9223372036854775807 < (Lib.repeatL [48] k).length + 1 + 1 + T.length := by omega
  have z4 : ¬ 9223372036854775807 < 2 + (Lib.repeatL [48] k).length + T.length := by omega
  clear hrl
  go_enter Tryz.func79, Tryz.ntmps79
  go_wp2_with fail
  refine (RP _).mono ?_
  rintro e w1 ⟨rfl, p1⟩
  go_wp2
  go_ret
  rw [hl.out]
  exact ⟨rfl, p1⟩
set_option maxRecDepth 100000 in
set_option maxHeartbeats 16000000 in
theorem layD {w : World} (T : List UInt8) (n : Int) (h1 : 1 ≤ T.length) (h2 : T.length ≤ 21) (h3 : 21 < n ∧ n ≤ 1000) (htab : Lib.TabIs Tryz.prog w "internal/strconv.uint64pow10" .u64 Lib.pow10Tab) :
    Calls Tryz.prog 79 #[.string ⟨T.toArray⟩, .int .i64 n] w fun e w' => e = .returned (.string ⟨(lay T n).toArray⟩) ∧ Pur w w' := by
  have IT := Tryz.strconv_Itoa (n - 1) (by omega) (by omega) w htab
  have hit : (Lib.itoa (n - 1)).length ≤ 21 := by
    have h9 := Lib.itoa_length_le (n - 1) (by omega) (by omega)
    omega
  have d1 : decide ((T.length : Int) ≤ n) = true := by rw [decide_eq_true_eq]; omega
  have d2 : decide (n ≤ 21) = false := by rw [decide_eq_false_iff_not]; omega
  have d3 : decide ((0 : Int) < n) = true := by rw [decide_eq_true_eq]; omega
  have d4 : decide ((-6 : Int) < n) = true := by rw [decide_eq_true_eq]; omega
  have d5 : decide (n ≤ 0) = false := by rw [decide_eq_false_iff_not]; omega
  have w1 : IntKind.i64.wrap (n - 1) = n - 1 := IntWalk.i64_in _ (by omega)
  have w2 : IntKind.i64.wrap (1 - n) = 1 - n := IntWalk.i64_in _ (by omega)
  have d6 : decide (n - 1 < 0) = false := by rw [decide_eq_false_iff_not]; omega
  have a1 : (1 : Int) ≤ (T.length : Int) := by omega
  have hl := Lib.hid (show lay T n = (Go.Proofs.YtapgibcdbggpkaaGreatDoor.sub T 0 1 ++ if 1 < T.length then 46 :: Go.Proofs.YtapgibcdbggpkaaGreatDoor.sub T 1 T.length else []) ++ (101 :: 43 :: Lib.itoa (n - 1)) by
    unfold lay
    rw [if_neg (by omega), if_neg (by omega), if_neg (by omega), if_neg (show ¬ n - 1 < 0 by omega)])
  have hsl : (Go.Proofs.YtapgibcdbggpkaaGreatDoor.sub T 0 1).length ≤ 21 ∧ (Go.Proofs.YtapgibcdbggpkaaGreatDoor.sub T 1 T.length).length ≤ 21 := by
    unfold Go.Proofs.YtapgibcdbggpkaaGreatDoor.sub
    rw [List.length_take, List.length_take, List.length_drop, List.length_drop]
    omega
  by_cases hT : 1 < T.length
  · have hl2 := Lib.hid (hl.out.trans (by rw [if_pos hT]))
    have t1 : decide ((1 : Int) < (T.length : Int)) = true := by rw [decide_eq_true_eq]; omega
    clear hl
    have z1 : ¬ 9223372036854775807 < T.length - 1 + 1 := by omega
    have z2 : ¬ 9223372036854775807 < 1 + (T.length - 1 + 1) := by omega
    have z3 : ¬ 9223372036854775807 < 1 + (T.length - 1 + 1) + 2 := by omega
    go_enter Tryz.func79, Tryz.ntmps79
    go_wp2_with fail
    refine IT.mono ?_
    rintro e w5 ⟨rfl, k, os, rfl⟩
    have PG : Pur w (grow (w.drewN k) os) := Lib.below_grow w.heap.size w (Nat.le_refl _) k os
    go_wp2
    go_ret
    rw [hl2.out]
    exact ⟨by simp, PG⟩
  · have hl2 := Lib.hid (hl.out.trans (by rw [if_neg hT]))
    have t1 : decide ((1 : Int) < (T.length : Int)) = false := by rw [decide_eq_false_iff_not]; omega
    clear hl
    go_enter Tryz.func79, Tryz.ntmps79
    go_wp2_with fail
    refine IT.mono ?_
    rintro e w5 ⟨rfl, k, os, rfl⟩
    have PG : Pur w (grow (w.drewN k) os) := Lib.below_grow w.heap.size w (Nat.le_refl _) k os
    go_wp2
    go_ret
    rw [hl2.out]
    exact ⟨by simp, PG⟩
set_option maxRecDepth 100000 in
set_option maxHeartbeats 16000000 in
theorem layE {w : World} (T : List UInt8) (n : Int) (h1 : 1 ≤ T.length) (h2 : T.length ≤ 21) (h3 : n ≤ -6 ∧ -1000 ≤ n) (htab : Lib.TabIs Tryz.prog w "internal/strconv.uint64pow10" .u64 Lib.pow10Tab) :
    Calls Tryz.prog 79 #[.string ⟨T.toArray⟩, .int .i64 n] w fun e w' => e = .returned (.string ⟨(lay T n).toArray⟩) ∧ Pur w w' := by
  have IT := Tryz.strconv_Itoa (1 - n) (by omega) (by omega) w htab
  have hit : (Lib.itoa (1 - n)).length ≤ 21 := by
    have h9 := Lib.itoa_length_le (1 - n) (by omega) (by omega)
    omega
  have d1 : decide ((T.length : Int) ≤ n) = false := by rw [decide_eq_false_iff_not]; omega
  have d2 : decide (n ≤ 21) = true := by rw [decide_eq_true_eq]; omega
  have d3 : decide ((0 : Int) < n) = false := by rw [decide_eq_false_iff_not]; omega
  have d4 : decide ((-6 : Int) < n) = false := by rw [decide_eq_false_iff_not]; omega
  have d5 : decide (n ≤ 0) = true := by rw [decide_eq_true_eq]; omega
  have w1 : IntKind.i64.wrap (n - 1) = n - 1 := IntWalk.i64_in _ (by omega)
  have w2 : IntKind.i64.wrap (1 - n) = 1 - n := IntWalk.i64_in _ (by omega)
  have d6 : decide (n - 1 < 0) = true := by rw [decide_eq_true_eq]; omega
  have a1 : (1 : Int) ≤ (T.length : Int) := by omega
  have hl := Lib.hid (show lay T n = (Go.Proofs.YtapgibcdbggpkaaGreatDoor.sub T 0 1 ++ if 1 < T.length then 46 :: Go.Proofs.YtapgibcdbggpkaaGreatDoor.sub T 1 T.length else []) ++ (101 :: 45 :: Lib.itoa (1 - n)) by
    unfold lay
    rw [if_neg (by omega), if_neg (by omega), if_neg (by omega), if_pos (show n - 1 < 0 by omega)])
  have hsl : (Go.Proofs.YtapgibcdbggpkaaGreatDoor.sub T 0 1).length ≤ 21 ∧ (Go.Proofs.YtapgibcdbggpkaaGreatDoor.sub T 1 T.length).length ≤ 21 := by
    unfold Go.Proofs.YtapgibcdbggpkaaGreatDoor.sub
    rw [List.length_take, List.length_take, List.length_drop, List.length_drop]
    omega
  by_cases hT : 1 < T.length
  · have hl2 := Lib.hid (hl.out.trans (by rw [if_pos hT]))
    have t1 : decide ((1 : Int) < (T.length : Int)) = true := by rw [decide_eq_true_eq]; omega
    clear hl
    have z1 : ¬ 9223372036854775807 < T.length - 1 + 1 := by omega
    have z2 : ¬ 9223372036854775807 < 1 + (T.length - 1 + 1) := by omega
    have z3 : ¬ 9223372036854775807 < 1 + (T.length - 1 + 1) + 2 := by omega
    go_enter Tryz.func79, Tryz.ntmps79
    go_wp2_with fail
    refine IT.mono ?_
    rintro e w5 ⟨rfl, k, os, rfl⟩
    have PG : Pur w (grow (w.drewN k) os) := Lib.below_grow w.heap.size w (Nat.le_refl _) k os
    go_wp2
    go_ret
    rw [hl2.out]
    exact ⟨by simp, PG⟩
  · have hl2 := Lib.hid (hl.out.trans (by rw [if_neg hT]))
    have t1 : decide ((1 : Int) < (T.length : Int)) = false := by rw [decide_eq_false_iff_not]; omega
    clear hl
    go_enter Tryz.func79, Tryz.ntmps79
    go_wp2_with fail
    refine IT.mono ?_
    rintro e w5 ⟨rfl, k, os, rfl⟩
    have PG : Pur w (grow (w.drewN k) os) := Lib.below_grow w.heap.size w (Nat.le_refl _) k os
    go_wp2
    go_ret
    rw [hl2.out]
    exact ⟨by simp, PG⟩
/-- layout, whole -/
theorem lay_any {w : World} (T : List UInt8) (n : Int) (h1 : 1 ≤ T.length) (h2 : T.length ≤ 21) (h3 : -1000 ≤ n ∧ n ≤ 1000) (htab : Lib.TabIs Tryz.prog w "internal/strconv.uint64pow10" .u64 Lib.pow10Tab) :
    Calls Tryz.prog 79 #[.string ⟨T.toArray⟩, .int .i64 n] w fun e w' => e = .returned (.string ⟨(lay T n).toArray⟩) ∧ Pur w w' := by
  by_cases g1 : 21 < n
  · exact layD T n h1 h2 ⟨g1, h3.2⟩ htab
  · by_cases g2 : n ≤ -6
    · exact layE T n h1 h2 ⟨g2, h3.1⟩ htab
    · by_cases g3 : n ≤ 0
      · obtain ⟨k, hk⟩ := Int.eq_ofNat_of_zero_le (show 0 ≤ -n by omega)
        obtain rfl : n = -(k : Int) := by omega
        exact layC T k h1 (by omega) (by omega)
      · obtain ⟨k, rfl⟩ := Int.eq_ofNat_of_zero_le (show 0 ≤ n by omega)
        by_cases g4 : T.length ≤ k
        · exact layA T k g4 (by omega)
        · exact layB T k (by omega) (by omega) (by omega) (by omega)
end Ft
end Go.Proofs.YtapgibcdbggpkaaGreatDoor
