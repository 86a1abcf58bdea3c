/- Floats: what a rounding writes is no NaN; products and quotients with a finite number that is not 0 are valid. -/
import Derived.Laws.FloatArith
namespace Go.Proofs.YtclaoeoofbobmaaGreatDoor
open Go
set_option linter.all false
namespace Fl
open Ieee
theorem read_word (neg : Bool) (r : Nat) (h : r ≤ double.infRung) : (double.read (double.word neg r)).isNaN = false := by
  have hs : double.signWeight = 9223372036854775808 := rfl
  have hi : double.infRung = 9218868437227405312 := rfl
  have hb : double.binade = 4503599627370496 := rfl
  have hr : double.word neg r % double.signWeight = r := by
    unfold Format.word
    rw [hs]
    rw [hi] at h
    split <;> omega
  unfold Format.read
  simp only [hr]
  split
  · rfl
  · split
    · rfl
    · split
      · rfl
      · rename_i h1 h2 h3
        omega
theorem read_nearest (neg : Bool) (m : Nat) (p : Int) : (double.read (double.nearest neg m p)).isNaN = false := by
  unfold Format.nearest
  split
  · exact read_word neg 0 (Nat.zero_le _)
  · exact read_word neg _ (Nat.min_le_right _ _)
theorem read_write {d : Datum} (h : d.isNaN = false) : (double.read (double.write d)).isNaN = false := by
  cases d with
  | number s m e => exact read_nearest s m e
  | infinity s => exact read_word s _ (Nat.le_refl _)
  | nan s f => cases h
/-- a finite number that is not 0 -/
def Fin (y : Nat) : Prop := ∃ t n j, double.read y = .number t n j ∧ n ≠ 0
theorem mul_some {x y : Nat} (hx : (double.read x).isNaN = false) (hy : Fin y) : ∃ r, floatBits .mul .f64 x y = some r ∧ (double.read r).isNaN = false := by
  obtain ⟨t, n, j, e, hn⟩ := hy
  have hp : ∃ d, (double.read x).product (double.read y) = some d ∧ d.isNaN = false := by
    rw [e]
    cases hd : double.read x with
    | number s m i => exact ⟨_, rfl, rfl⟩
    | infinity s => exact ⟨_, by simp only [Datum.product, if_neg hn]; rfl, rfl⟩
    | nan s f => rw [hd] at hx; cases hx
  obtain ⟨d, h1, h2⟩ := hp
  exact ⟨double.write d, by show Format.mul double x y = _; unfold Format.mul; rw [h1]; rfl, read_write h2⟩
theorem div_some {x y : Nat} (hx : (double.read x).isNaN = false) (hy : Fin y) : ∃ r, floatBits .quo .f64 x y = some r ∧ (double.read r).isNaN = false := by
  obtain ⟨t, n, j, e, hn⟩ := hy
  have hp : ∃ d, (double.read x).quotient (double.fractionBits + 2) (double.read y) = some d ∧ d.isNaN = false := by
    rw [e]
    cases hd : double.read x with
    | number s m i => exact ⟨_, by simp only [Datum.quotient, if_neg hn]; rfl, rfl⟩
    | infinity s => exact ⟨_, rfl, rfl⟩
    | nan s f => rw [hd] at hx; cases hx
  obtain ⟨d, h1, h2⟩ := hp
  exact ⟨double.write d, by show Format.div double x y = _; unfold Format.div; rw [h1]; rfl, read_write h2⟩
theorem ofInt_ok (n : Int) : (double.read (floatOfInt .f64 n)).isNaN = false := read_write (d := .number (n < 0) n.natAbs 0) rfl
/-- the exact powers of ten -/
def pows : List Nat := [4607182418800017408, 4621819117588971520, 4636737291354636288, 4652007308841189376, 4666723172467343360, 4681608360884174848, 4696837146684686336, 4711630319722168320, 4726483295884279808, 4741671816366391296, 4756540486875873280, 4771362005757984768, 4786511204640096256, 4801453603149578240, 4816244402031689728, 4831355200913801216, 4846369599423283200, 4861130398305394688, 4876203697187506176, 4891288408196988160, 4906019910204099648, 4921056587992461136, 4936209963552724370]
theorem pows_fin : ∀ y ∈ pows, Fin y := by
  intro y hy
  have h : ∀ y ∈ pows, (match double.read y with | .number _ n _ => n != 0 | _ => false) = true := by decide +kernel
  have := h y hy
  unfold Fin
  cases hd : double.read y with
  | number s n j => rw [hd] at this; exact ⟨s, n, j, rfl, by simpa using this⟩
  | infinity s => rw [hd] at this; cases this
  | nan s f => rw [hd] at this; cases this
end Fl
end Go.Proofs.YtclaoeoofbobmaaGreatDoor
