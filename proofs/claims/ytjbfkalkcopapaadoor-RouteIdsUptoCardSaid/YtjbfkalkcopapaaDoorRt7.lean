/- What the world must hold; Atoi, Itoa, Cut in the words of this package. -/
import Derived.Test.YtjbfkalkcopapaaDoorRt6
import Derived.Lib.LaidTab
import Derived.Lib.SmallJoins
import Derived.Lib.AppendIntMem
import Derived.Shelf.Unicode.PredsPay
namespace Go.Proofs.YtjbfkalkcopapaaDoor
open Go Go.RowKit
set_option linter.all false
/-- the variables of Go's library that this package reads -/
structure RW (w : World) : Prop where
  mx : ∃ m, w.cell? ⟨0, 0, none⟩ = some (.int .i64 m)
  tabs : Lib.Utf8Tabs 4 5 w
  es : ∃ te pe, w.cell? ⟨1, 0, none⟩ = some (.iface te pe)
  er : ∃ te pe, w.cell? ⟨2, 0, none⟩ = some (.iface te pe)
  pow : Lib.TabIs Tryd.prog w "internal/strconv.uint64pow10" .u64 Lib.pow10Tab
theorem cell_pur {w w' : World} {a : Addr} {v : Value} (h : w.cell? a = some v) (hp : Pur w w') : w'.cell? a = some v := (hp.cell (World.block_lt_of_cell? w a h)).trans h
theorem RW.pur {w w' : World} (h : RW w) (hp : Pur w w') : RW w' := by
  obtain ⟨⟨m, h1⟩, h2, ⟨te, pe, h3⟩, ⟨te', pe', h4⟩, h5⟩ := h
  exact ⟨⟨m, cell_pur h1 hp⟩, Utf8Tabs_below h2 hp, ⟨te, pe, cell_pur h3 hp⟩, ⟨te', pe', cell_pur h4 hp⟩, TabIs_below (g := 3) (by kernel_rfl) h5 hp⟩
/-- Atoi: a number and no error, or an error. -/
def AtoiGives (p : Bytes) (w : World) (e : Ending) (w' : World) : Prop :=
  (∃ v, Lib.atoiAll p = .ok v ∧ e = .returned (.tuple #[.int .i64 v, .nilIface]) ∧ Pur w w') ∨
  (∃ v N, (∀ n, Lib.atoiAll p ≠ .ok n) ∧ e = .returned (.tuple #[.int .i64 v, .iface 74 (.pointer (some ⟨N, 0, none⟩))]) ∧ Pur w w')
theorem atoi_any (p : Bytes) (w : World) (hW : RW w) (hs : p.length ≤ 1000000000) : Calls Tryd.prog 28 #[.string ⟨p.toArray⟩] w (AtoiGives p w) := by
  have hz : (ByteArray.mk p.toArray).size = p.length := by show p.toArray.size = _; simp
  have hd : (ByteArray.mk p.toArray).data.toList = p := by simp
  rcases h : Lib.atoiAll p with v | _ | _
  · refine (Tryd.strconv_Atoi_ok ⟨p.toArray⟩ (by rw [hz]; omega) v (by rw [hd]; exact h) w).mono ?_
    rintro e w' ⟨rfl, hw⟩
    refine .inl ⟨v, h, rfl, ?_⟩
    rcases hw with rfl | ⟨t, rfl⟩
    · exact Pur.refl _
    · exact Lib.bytesWorld_below _ _ _
  · obtain ⟨te, pe, hc⟩ := hW.es
    refine (Tryd.strconv_Atoi_syntax ⟨p.toArray⟩ (by rw [hz]; omega) (by rw [hd]; exact h) _ w hc (.inr ⟨te, pe, rfl⟩)).mono ?_
    rintro e w' ⟨N, rfl, _, _, hb⟩
    exact .inr ⟨0, N, (fun n hn => by rw [h] at hn; cases hn), rfl, hb⟩
  · obtain ⟨te, pe, hc⟩ := hW.er
    refine (Tryd.strconv_Atoi_range ⟨p.toArray⟩ (by rw [hz]; omega) (by rw [hd]; exact h) _ w hc (.inr ⟨te, pe, rfl⟩)).mono ?_
    rintro e w' ⟨N, rfl, _, _, hb⟩
    exact .inr ⟨_, N, (fun n hn => by rw [h] at hn; cases hn), rfl, hb⟩
theorem itoa_any (n : Int) (w : World) (hW : RW w) (h0 : -9223372036854775808 ≤ n) (h1 : n ≤ 9223372036854775807) :
    Calls Tryd.prog 22 #[.int .i64 n] w fun e w' => e = .returned (.string ⟨(Lib.itoa n).toArray⟩) ∧ Pur w w' := by
  refine (Tryd.strconv_Itoa n h0 h1 w hW.pow).mono ?_
  rintro e w' ⟨rfl, k, os, rfl⟩
  exact ⟨rfl, Lib.below_grow _ _ (Nat.le_refl _) _ _⟩
/-- Cut at one byte -/
theorem cut_byte (p : Bytes) (c : UInt8) : (Lib.cut p [c]).1 = p.takeWhile (· != c) ∧ (Lib.cut p [c]).2.1 = (p.dropWhile (· != c)).drop 1 ∧ (Lib.cut p [c]).2.2 = decide (p.dropWhile (· != c) ≠ []) := by
  have hall : ∀ a : Bytes, c ∉ a → ∀ x ∈ a, (x != c) = true := fun a h x hx => by
    simp only [bne_iff_ne, ne_eq]; rintro rfl; exact h hx
  rcases index_one p c with ⟨h1, h2⟩ | ⟨a, r, rfl, h2, h3⟩
  · have t1 : p.takeWhile (· != c) = p := by
      have := List.takeWhile_append_of_pos (hall p h2) (l₂ := [])
      simpa using this
    have t2 : p.dropWhile (· != c) = [] := by
      have := List.dropWhile_append_of_pos (hall p h2) (l₂ := [])
      simpa using this
    rw [Lib.cut, if_neg (by rw [h1]; decide), t1, t2]
    exact ⟨rfl, rfl, rfl⟩
  · have t1 : (a ++ c :: r).takeWhile (· != c) = a := by rw [List.takeWhile_append_of_pos (hall a h2)]; simp
    have t2 : (a ++ c :: r).dropWhile (· != c) = c :: r := by rw [List.dropWhile_append_of_pos (hall a h2)]; simp
    rw [Lib.cut, if_pos (by rw [h3]; omega), t1, t2, h3]
    exact ⟨by simp, by simp, by simp⟩
theorem cut58_any (p : Bytes) (w : World) (hW : RW w) (hs : p.length ≤ 1000000000) :
    Calls Tryd.prog 27 #[.string ⟨p.toArray⟩, .string ⟨#[58]⟩] w fun e w' => e = .returned (.tuple #[.string ⟨(hostOf p).toArray⟩, .string ⟨((p.dropWhile (· != 58)).drop 1).toArray⟩, .bool (decide (p.dropWhile (· != 58) ≠ []))]) ∧ Pur w w' := by
  obtain ⟨m, hm⟩ := hW.mx
  refine (Tryd.strings_Cut ⟨p.toArray⟩ ⟨#[58]⟩ m w (by show p.toArray.size < _; simp; omega) hm).mono ?_
  rintro e w' ⟨rfl, n, rfl⟩
  refine ⟨?_, Pur.drewN n (Pur.refl w)⟩
  obtain ⟨h1, h2, h3⟩ := cut_byte p 58
  show Ending.returned (.tuple #[.string ⟨(Lib.cut p [58]).1.toArray⟩, .string ⟨(Lib.cut p [58]).2.1.toArray⟩, .bool (Lib.cut p [58]).2.2]) = _
  rw [h1, h2, h3]
  rfl
end Go.Proofs.YtjbfkalkcopapaaDoor
