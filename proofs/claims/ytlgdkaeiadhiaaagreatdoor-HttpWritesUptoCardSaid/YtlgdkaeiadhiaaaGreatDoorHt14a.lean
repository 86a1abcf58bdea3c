/- The document's Read: the header lines. -/
import Derived.Test.YtlgdkaeiadhiaaaGreatDoorHt13
import Derived.Deep.RegionLaw
namespace Go.Proofs.YtlgdkaeiadhiaaaGreatDoor
open Go Go.RowKit
set_option linter.all false
attribute [local go_sem ↓] Go.wp_at_zero Go.wp_at_succ
theorem rgive_at {w w' : World} {n : Int} {RES : Option Msg × Int} (e : RES = (none, n)) (h : Pur w w') : RGives w RES (.returned (.tuple #[zeroM, .int .i64 n])) w' := by
  rw [e]
  exact ⟨rfl, h⟩
theorem headOf_way (l : Bytes) : ∃ cp, cp ≤ l.length ∧ (∀ j, j < cp → by8 l j ≠ 58) ∧ (cp < l.length → by8 l cp = 58) ∧
    headOf l = if cp < l.length ∧ okToken (sub l 0 cp) = true ∧ okText (l.drop (cp + 1)) = true then some (small (sub l 0 cp), trim (l.drop (cp + 1))) else none := by
  have hH : headOf l = if (58 : UInt8) ∈ l ∧ okToken (l.takeWhile (· != 58)) = true ∧ okText (trim ((l.dropWhile (· != 58)).drop 1)) = true then some (small (l.takeWhile (· != 58)), trim ((l.dropWhile (· != 58)).drop 1)) else none := rfl
  rcases colon_way l with ⟨h1, h2⟩ | ⟨c, h1, h2, h3, h4, h5, h6⟩
  · refine ⟨l.length, Nat.le_refl _, fun j hj e => ?_, fun h => absurd h (by omega), ?_⟩
    · apply h1
      have : l[j]? = some (58 : UInt8) := by
        rw [List.getElem?_eq_getElem hj]
        congr 1
        apply UInt8.toNat_inj.1
        simpa [by8, hj] using e
      exact List.mem_of_getElem? this
    · rw [hH, if_neg (fun h => h1 h.1), if_neg (fun h => absurd h.1 (by omega))]
  · refine ⟨c, by omega, h4, fun _ => h3, ?_⟩
    rw [hH, h5, h6, text_trim]
    simp [h1, h2]
theorem set_blk14 {w : World} {g g' i j : Nat} {v : Value} (h : g ≠ g') : (w.setCell ⟨g, i, none⟩ v).cell? ⟨g', j, none⟩ = w.cell? ⟨g', j, none⟩ :=
  World.cell?_setCell_other _ _ _ _ (fun e => h (by first | exact congrArg Addr.block e | exact (congrArg Addr.block e).symm))
structure SizeOne (s1 : Bytes) (o : Option Nat) : Prop where
  neg : dig9 s1 < 0 → o = none
  pos : ∀ sz : Nat, dig9 s1 = sz → o = some sz
  lt : ∀ sz : Nat, dig9 s1 = sz → sz ≤ 1000000000
theorem size_one (s : Bytes) : SizeOne s (if s = [] ∨ 9 < s.length ∨ digitsB s = false then none else some (dval 0 s)) := by
  by_cases hc : digitsB s = true ∧ 0 < s.length ∧ s.length ≤ 9
  · have hne : s ≠ [] := fun h => by rw [h] at hc; simp at hc
    have hd : dig9 s = (dval 0 s : Nat) := by unfold dig9; rw [if_pos hc]
    have hl := dval_lt s 0 hc.1
    have h10 : (10 : Nat) ^ s.length ≤ 10 ^ 9 := Nat.pow_le_pow_right (by decide) hc.2.2
    rw [if_neg (by rintro (h | h | h); exact hne h; omega; rw [hc.1] at h; cases h)]
    refine ⟨fun h => by rw [hd] at h; omega, fun sz h => by rw [hd] at h; congr 1; omega, fun sz h => by rw [hd] at h; omega⟩
  · have hd : dig9 s = -1 := by unfold dig9; rw [if_neg hc]
    rw [if_pos (by
      by_cases h1 : s = []
      · exact .inl h1
      · right
        by_cases h2 : 9 < s.length
        · exact .inl h2
        · right
          cases h3 : digitsB s with
          | false => rfl
          | true => exact absurd ⟨h3, by have := List.length_pos_iff.2 h1; omega, by omega⟩ hc)]
    exact ⟨fun _ => rfl, fun sz h => by rw [hd] at h; omega, fun sz h => by rw [hd] at h; omega⟩
theorem size_dig (hs : List Fld) : (cnt hs nLength = 1 → SizeOne (fst' hs nLength) (sizeOf' hs)) ∧ (cnt hs nLength ≠ 1 → sizeOf' hs = some 0) := by
  unfold sizeOf'
  constructor
  · intro h
    rw [if_pos h]
    exact size_one _
  · intro h
    rw [if_neg h]
end Go.Proofs.YtlgdkaeiadhiaaaGreatDoor
