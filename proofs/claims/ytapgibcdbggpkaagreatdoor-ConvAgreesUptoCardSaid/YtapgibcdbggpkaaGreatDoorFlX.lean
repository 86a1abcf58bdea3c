/- Floats: what a rounding writes is no NaN; products and quotients with a finite number that is not 0 are valid. The library's exact way of reading a number: it ends, and says one and the same. -/
import Derived.Laws.FloatArith
import Derived.Test.YtapgibcdbggpkaaGreatDoorUsA
import Derived.Test.YtapgibcdbggpkaaGreatDoorRfX
namespace Go.Proofs.YtapgibcdbggpkaaGreatDoor
open Go
set_option linter.all false
namespace Fl
open Ieee
theorem read_word (neg : Bool) (r : Nat) (h : r ≤ double.infRung) : (double.read (double.word neg r)).isNaN = false := by
  have hs : double.signWeight = 9223372036854775808 := rfl
  have hi : double.infRung = 9218868437227405312 := rfl
  have hb : double.binade = 4503599627370496 := rfl
  have hr : double.word neg r % double.signWeight = r := by
    unfold Format.word
    rw [hs]
    rw [hi] at h
    split <;> omega
  unfold Format.read
  simp only [hr]
  split
  · rfl
  · split
    · rfl
    · split
      · rfl
      · rename_i h1 h2 h3
        omega
theorem read_nearest (neg : Bool) (m : Nat) (p : Int) : (double.read (double.nearest neg m p)).isNaN = false := by
  unfold Format.nearest
  split
  · exact read_word neg 0 (Nat.zero_le _)
  · exact read_word neg _ (Nat.min_le_right _ _)
theorem read_write {d : Datum} (h : d.isNaN = false) : (double.read (double.write d)).isNaN = false := by
  cases d with
  | number s m e => exact read_nearest s m e
  | infinity s => exact read_word s _ (Nat.le_refl _)
  | nan s f => cases h
/-- a finite number that is not 0 -/
def Fin (y : Nat) : Prop := ∃ t n j, double.read y = .number t n j ∧ n ≠ 0
theorem mul_some {x y : Nat} (hx : (double.read x).isNaN = false) (hy : Fin y) : ∃ r, floatBits .mul .f64 x y = some r ∧ (double.read r).isNaN = false := by
  obtain ⟨t, n, j, e, hn⟩ := hy
  have hp : ∃ d, (double.read x).product (double.read y) = some d ∧ d.isNaN = false := by
    rw [e]
    cases hd : double.read x with
    | number s m i => exact ⟨_, rfl, rfl⟩
    | infinity s => exact ⟨_, by simp only [Datum.product, if_neg hn]; rfl, rfl⟩
    | nan s f => rw [hd] at hx; cases hx
  obtain ⟨d, h1, h2⟩ := hp
  exact ⟨double.write d, by show Format.mul double x y = _; unfold Format.mul; rw [h1]; rfl, read_write h2⟩
theorem div_some {x y : Nat} (hx : (double.read x).isNaN = false) (hy : Fin y) : ∃ r, floatBits .quo .f64 x y = some r ∧ (double.read r).isNaN = false := by
  obtain ⟨t, n, j, e, hn⟩ := hy
  have hp : ∃ d, (double.read x).quotient (double.fractionBits + 2) (double.read y) = some d ∧ d.isNaN = false := by
    rw [e]
    cases hd : double.read x with
    | number s m i => exact ⟨_, by simp only [Datum.quotient, if_neg hn]; rfl, rfl⟩
    | infinity s => exact ⟨_, rfl, rfl⟩
    | nan s f => rw [hd] at hx; cases hx
  obtain ⟨d, h1, h2⟩ := hp
  exact ⟨double.write d, by show Format.div double x y = _; unfold Format.div; rw [h1]; rfl, read_write h2⟩
theorem ofInt_ok (n : Int) : (double.read (floatOfInt .f64 n)).isNaN = false := read_write (d := .number (n < 0) n.natAbs 0) rfl
/-- the exact powers of ten -/
def pows : List Nat := [4607182418800017408, 4621819117588971520, 4636737291354636288, 4652007308841189376, 4666723172467343360, 4681608360884174848, 4696837146684686336, 4711630319722168320, 4726483295884279808, 4741671816366391296, 4756540486875873280, 4771362005757984768, 4786511204640096256, 4801453603149578240, 4816244402031689728, 4831355200913801216, 4846369599423283200, 4861130398305394688, 4876203697187506176, 4891288408196988160, 4906019910204099648, 4921056587992461136, 4936209963552724370]
theorem pows_fin : ∀ y ∈ pows, Fin y := by
  intro y hy
  have h : ∀ y ∈ pows, (match double.read y with | .number _ n _ => n != 0 | _ => false) = true := by decide +kernel
  have := h y hy
  unfold Fin
  cases hd : double.read y with
  | number s n j => rw [hd] at this; exact ⟨s, n, j, rfl, by simpa using this⟩
  | infinity s => rw [hd] at this; cases this
  | nan s f => rw [hd] at this; cases this
end Fl
end Go.Proofs.YtapgibcdbggpkaaGreatDoor
namespace Go.Proofs.YtapgibcdbggpkaaGreatDoor
open Go Go.RowKit
set_option linter.all false
namespace Us
/-- the exact powers of ten, as the library lays them -/
structure FT (T : Nat → Nat) (w : World) : Prop where
  sl : ∃ g o c, w.cell? ⟨12, 0, none⟩ = some (.slice (some ⟨g, o, none⟩) 23 c) ∧ ∀ k, k < 23 → w.cell? ⟨g, o + k, none⟩ = some (.float .f64 (T k))
def Exact (T : Nat → Nat) (m : Nat) (e : Int) (x : Nat) (ok : Bool) : Prop :=
  ∀ w, FT T w → Rf.F64 w → Calls Tryz.prog 169 #[.int .u64 (m : Int), .int .i64 e, .bool false] w fun e' w' => e' = .returned (.tuple #[.float .f64 x, .bool ok]) ∧ w = w'
set_option maxRecDepth 100000 in
set_option maxHeartbeats 8000000 in
theorem exact_any (T : Nat → Nat) (hF : ∀ k, k < 23 → Fl.Fin (T k)) (m : Nat) (e : Int) (he : -100000 ≤ e) (he2 : e ≤ 100000) : ∃ x ok, Exact T m e x ok ∧ (Ieee.double.read x).isNaN = false := by
  have h0 := Fl.ofInt_ok (m : Int)
  obtain ⟨x0, hx0⟩ : ∃ x0, floatOfInt .f64 (m : Int) = x0 := ⟨_, rfl⟩
  rw [hx0] at h0
  by_cases hm : m / 4503599627370496 = 0
  · have d1 : ((m : Int) / 4503599627370496 != 0) = false := by rw [bne_eq_false_iff_eq]; omega
    by_cases z : e = 0
    · subst z
      refine ⟨x0, true, fun w hT hF0 => ?_, h0⟩
      have c0 := hF0.c0
      clear hF h0 he he2 hm
      go_enter Tryz.func169, Tryz.ntmps169
      go_wp2
      go_ret2
      exact ⟨rfl, rfl⟩
    · skip
      by_cases ng : e < 0
      · by_cases lo : -22 ≤ e
        · obtain ⟨k, hk1⟩ := Int.eq_ofNat_of_zero_le (show 0 ≤ -e by omega)
          have k23 : k < 23 := by omega
          obtain ⟨r, hr, hrn⟩ := Fl.div_some (x := x0) (y := T k) h0 (hF k k23)
          have QU := fun w => run_float_arith (P := Tryz.prog) w .quo 23 .f64 x0 (T k) r hr
          have wk : IntKind.i64.wrap (-e) = (k : Int) := by rw [hk1]; exact IntWalk.i64_in _ (by omega)
          have kl : (k : Int) < 23 := by omega
          have k0 : (0 : Int) ≤ (k : Int) := by omega
          refine ⟨r, true, fun w hT hF0 => ?_, hrn⟩
          have c0 := hF0.c0
          obtain ⟨g, o, c, hg, hk⟩ := hT.sl
          have ck := hk k k23
          have e0 : (e == 0) = false := by rw [beq_eq_false_iff_ne]; exact z
          have lo' : (-22 : Int) ≤ e := lo
          clear hF h0 he he2 hm hk hT hF0 hk1 k23 hr
          go_enter Tryz.func169, Tryz.ntmps169
          go_wp2
          go_ret2
          exact ⟨rfl, rfl⟩
        · refine ⟨x0, false, fun w hT hF0 => ?_, h0⟩
          have c0 := hF0.c0
          have e0 : (e == 0) = false := by rw [beq_eq_false_iff_ne]; exact z
          clear hF h0 he he2 hm hT hF0
          go_enter Tryz.func169, Tryz.ntmps169
          go_wp2
          go_ret2
          exact ⟨rfl, rfl⟩
      · obtain ⟨k, rfl⟩ := Int.eq_ofNat_of_zero_le (show 0 ≤ e by omega)
        have e0 : (((k : Nat) : Int) == 0) = false := by rw [beq_eq_false_iff_ne]; exact z
        have k0 : (0 : Int) < (k : Int) := by omega
        have k00 : (0 : Int) ≤ (k : Int) := by omega
        by_cases k22 : k ≤ 22
        · have kl : (k : Int) < 23 := by omega
          have kn : decide ((22 : Int) < (k : Int)) = false := by rw [decide_eq_false_iff_not]; omega
          have kn2 : decide ((k : Int) ≤ 37) = true := by rw [decide_eq_true_eq]; omega
          have key : ∃ x ok, Exact T m (k : Int) x ok ∧ (Ieee.double.read x).isNaN = false := by
            obtain ⟨r, hr, hrn⟩ := Fl.mul_some (x := x0) (y := T k) h0 (hF k (by omega))
            have MU := fun w => run_float_arith (P := Tryz.prog) w .mul 23 .f64 x0 (T k) r hr
            rcases g1 : (FloatKind.f64.format.order x0 4831355200913801216 == some Ordering.gt) with _ | _
            · rcases g2 : (FloatKind.f64.format.order x0 14054727237768577024 == some Ordering.lt) with _ | _
              · refine ⟨r, true, fun w hT hF0 => ?_, hrn⟩
                have c0 := hF0.c0
                obtain ⟨g, o, c, hg, hk⟩ := hT.sl
                have ck := hk k (by omega)
                clear hF h0 he he2 hm hk hT hF0 hr hrn k22 z ng
                go_enter Tryz.func169, Tryz.ntmps169
                go_wp2
                go_ret2
                exact ⟨rfl, rfl⟩
              · refine ⟨x0, false, fun w hT hF0 => ?_, h0⟩
                have c0 := hF0.c0
                obtain ⟨g, o, c, hg, hk⟩ := hT.sl
                have ck := hk k (by omega)
                clear hF h0 he he2 hm hk hT hF0 hr hrn k22 z ng
                go_enter Tryz.func169, Tryz.ntmps169
                go_wp2
                go_ret2
                exact ⟨rfl, rfl⟩
            · refine ⟨x0, false, fun w hT hF0 => ?_, h0⟩
              have c0 := hF0.c0
              obtain ⟨g, o, c, hg, hk⟩ := hT.sl
              have ck := hk k (by omega)
              clear hF h0 he he2 hm hk hT hF0 hr hrn k22 z ng
              go_enter Tryz.func169, Tryz.ntmps169
              go_wp2
              go_ret2
              exact ⟨rfl, rfl⟩
          exact key
        · by_cases k37 : k ≤ 37
          · obtain ⟨j, hj⟩ : ∃ j, k = j + 22 := ⟨k - 22, by omega⟩
            obtain ⟨x1, hx1, h1⟩ := Fl.mul_some (x := x0) (y := T j) h0 (hF j (by omega))
            have M1 := fun w => run_float_arith (P := Tryz.prog) w .mul 23 .f64 x0 (T j) x1 hx1
            have wj : IntKind.i64.wrap ((k : Int) - 22) = (j : Int) := by rw [show (k : Int) - 22 = (j : Int) by omega]; exact IntWalk.i64_in _ (by omega)
            have jl : (j : Int) < 23 := by omega
            have j0 : (0 : Int) ≤ (j : Int) := by omega
            have kn : decide ((22 : Int) < (k : Int)) = true := by rw [decide_eq_true_eq]; omega
            have kn2 : decide ((k : Int) ≤ 37) = true := by rw [decide_eq_true_eq]; omega
            have key : ∃ x ok, Exact T m (k : Int) x ok ∧ (Ieee.double.read x).isNaN = false := by
              obtain ⟨r, hr, hrn⟩ := Fl.mul_some (x := x1) (y := T 22) h1 (hF 22 (by omega))
              have MU := fun w => run_float_arith (P := Tryz.prog) w .mul 23 .f64 x1 (T 22) r hr
              rcases g1 : (FloatKind.f64.format.order x1 4831355200913801216 == some Ordering.gt) with _ | _
              · rcases g2 : (FloatKind.f64.format.order x1 14054727237768577024 == some Ordering.lt) with _ | _
                · refine ⟨r, true, fun w hT hF0 => ?_, hrn⟩
                  have c0 := hF0.c0
                  obtain ⟨g, o, c, hg, hk⟩ := hT.sl
                  have ck := hk 22 (by omega)
                  have cj := hk j (by omega)
                  clear hF h0 he he2 hm hk hT hF0 hr hrn k22 z ng hj k37 h1 hx1
                  go_enter Tryz.func169, Tryz.ntmps169
                  go_wp2
                  go_ret2
                  exact ⟨rfl, rfl⟩
                · refine ⟨x1, false, fun w hT hF0 => ?_, h1⟩
                  have c0 := hF0.c0
                  obtain ⟨g, o, c, hg, hk⟩ := hT.sl
                  have ck := hk 22 (by omega)
                  have cj := hk j (by omega)
                  clear hF h0 he he2 hm hk hT hF0 hr hrn k22 z ng hj k37 h1 hx1
                  go_enter Tryz.func169, Tryz.ntmps169
                  go_wp2
                  go_ret2
                  exact ⟨rfl, rfl⟩
              · refine ⟨x1, false, fun w hT hF0 => ?_, h1⟩
                have c0 := hF0.c0
                obtain ⟨g, o, c, hg, hk⟩ := hT.sl
                have ck := hk 22 (by omega)
                have cj := hk j (by omega)
                clear hF h0 he he2 hm hk hT hF0 hr hrn k22 z ng hj k37 h1 hx1
                go_enter Tryz.func169, Tryz.ntmps169
                go_wp2
                go_ret2
                exact ⟨rfl, rfl⟩
            exact key
          · refine ⟨x0, false, fun w hT hF0 => ?_, h0⟩
            have c0 := hF0.c0
            have kn2 : decide ((k : Int) ≤ 37) = false := by rw [decide_eq_false_iff_not]; omega
            clear hF h0 he he2 hm hT hF0 ng z
            go_enter Tryz.func169, Tryz.ntmps169
            go_wp2
            go_ret2
            exact ⟨rfl, rfl⟩
  · have d1 : ((m : Int) / 4503599627370496 != 0) = true := by rw [bne_iff_ne]; omega
    refine ⟨0, false, fun w hT hF0 => ?_, by decide⟩
    have c0 := hF0.c0
    clear hF h0 he he2 hm
    go_enter Tryz.func169, Tryz.ntmps169
    go_wp2
    go_ret2
    exact ⟨rfl, rfl⟩
end Us
end Go.Proofs.YtapgibcdbggpkaaGreatDoor
