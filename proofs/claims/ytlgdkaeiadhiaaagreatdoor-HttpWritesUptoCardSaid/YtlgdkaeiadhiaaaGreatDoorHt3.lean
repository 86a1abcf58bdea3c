/- What the world must hold; Index, Split, Cut, Trim, Atoi, Itoa in the words of this package. -/
import Derived.Test.YtlgdkaeiadhiaaaGreatDoorHt2
import Derived.Test.YtlgdkaeiadhiaaaGreatDoorHtPure5
import Derived.Shelf.Strings.SlTrimAscii
import Derived.Lib.LaidTab
import Derived.Lib.SmallJoins
import Derived.Lib.AppendIntMem
import Derived.Lib.AtoiAllCases
import Derived.Shelf.Unicode.PredsPay
namespace Go.Proofs.YtlgdkaeiadhiaaaGreatDoor
open Go Go.RowKit
set_option linter.all false
/-- the variables of Go's library that this package reads -/
structure HW (w : World) : Prop where
  mx : ∃ m, w.cell? ⟨1, 0, none⟩ = some (.int .i64 m)
  tabs : Lib.Utf8Tabs 5 6 w
  pow : Lib.TabIs Tryz.prog w "internal/strconv.uint64pow10" .u64 Lib.pow10Tab
  et : w.cell? ⟨0, 0, none⟩ = some (.iface 135 (.agg #[.pointer (some ⟨Tryz.prog.globals.size, 53, none⟩)]))
theorem cell_pur {w w' : World} {a : Addr} {v : Value} (h : w.cell? a = some v) (hp : Pur w w') : w'.cell? a = some v := (hp.cell (World.block_lt_of_cell? w a h)).trans h
theorem HW.pur {w w' : World} (h : HW w) (hp : Pur w w') : HW w' := by
  obtain ⟨⟨m, h1⟩, h2, h3, h4⟩ := h
  exact ⟨⟨m, cell_pur h1 hp⟩, Utf8Tabs_below h2 hp, TabIs_below (g := 4) (by kernel_rfl) h3 hp, cell_pur h4 hp⟩
theorem index_any (b t : Bytes) (w : World) (hW : HW w) (hs : b.length ≤ 1000000000) :
    Calls Tryz.prog 32 #[.string ⟨b.toArray⟩, .string ⟨t.toArray⟩] w fun e w' => e = .returned (.int .i64 (at' (idx t b))) ∧ w = w' := by
  obtain ⟨m, hm⟩ := hW.mx
  refine (Tryz.strings_Index ⟨b.toArray⟩ ⟨t.toArray⟩ m w (by show b.toArray.size < _; simp; omega) hm).mono ?_
  rintro e w' ⟨rfl, rfl⟩
  refine ⟨?_, rfl⟩
  rw [← index_idx]
/-- a slice that reads as a list of texts -/
def SRead (w : World) (B : Nat) (ls : List Bytes) : Prop := B < w.heap.size ∧ ∀ (j : Nat) p, ls[j]? = some p → w.cell? ⟨B, j, none⟩ = some (.string ⟨p.toArray⟩)
theorem SRead.pur {w w' : World} {B : Nat} {ls : List Bytes} (h : SRead w B ls) (hp : Pur w w') : SRead w' B ls :=
  ⟨Nat.lt_of_lt_of_le h.1 hp.size, fun j p hj => cell_pur (h.2 j p hj) hp⟩
theorem split_any (l t : Bytes) (w : World) (hW : HW w) (ht : t ≠ []) (hs : l.length ≤ 1000000000) :
    Calls Tryz.prog 33 #[.string ⟨l.toArray⟩, .string ⟨t.toArray⟩] w fun e w' => e = .returned (.slice (some ⟨w.heap.size, 0, none⟩) (pcs t l).length (pcs t l).length) ∧ Pur w w' ∧ SRead w' w.heap.size (pcs t l) := by
  obtain ⟨m, hm⟩ := hW.mx
  have hpos := List.length_pos_iff.2 ht
  have h1 : 1 ≤ (ByteArray.mk t.toArray).size := by show 1 ≤ t.toArray.size; rw [List.size_toArray]; omega
  refine (Tryz.strings_Split ⟨l.toArray⟩ ⟨t.toArray⟩ m w (by show l.toArray.size < _; simp; omega) hm h1).mono ?_
  rintro e w' ⟨rfl, rfl⟩
  have hd := Lib.splitB_data ⟨t.toArray⟩ 0 (Lib.countB ⟨l.toArray⟩ ⟨t.toArray⟩) ⟨l.toArray⟩
  have hp : (Lib.splitB ⟨t.toArray⟩ 0 (Lib.countB ⟨l.toArray⟩ ⟨t.toArray⟩) ⟨l.toArray⟩).map (·.data.toList) = pcs t l := by
    rw [hd, ← split_pcs ht _ l (Nat.le_refl _)]
    rfl
  have hl : Lib.countB ⟨l.toArray⟩ ⟨t.toArray⟩ + 1 = (pcs t l).length := by
    rw [← hp, List.length_map]
    exact (Lib.splitB_all _ h1 0 _ _ rfl).symm
  rw [hl]
  refine ⟨rfl, (Pur.refl w).alloc _, by simp, fun j p hj => ?_⟩
  rw [World.cell?_alloc_mark]
  rw [← hp, List.getElem?_map] at hj
  obtain ⟨s, h1, rfl⟩ := Option.map_eq_some_iff.1 hj
  simp [h1]
theorem cut58_any (p : Bytes) (w : World) (hW : HW w) (hs : p.length ≤ 1000000000) :
    Calls Tryz.prog 34 #[.string ⟨p.toArray⟩, .string ⟨#[58]⟩] w fun e w' => e = .returned (.tuple #[.string ⟨(p.takeWhile (· != 58)).toArray⟩, .string ⟨((p.dropWhile (· != 58)).drop 1).toArray⟩, .bool (decide ((58 : UInt8) ∈ p))]) ∧ Pur w w' := by
  obtain ⟨m, hm⟩ := hW.mx
  refine (Tryz.strings_Cut ⟨p.toArray⟩ ⟨#[58]⟩ m w (by show p.toArray.size < _; simp; omega) hm).mono ?_
  rintro e w' ⟨rfl, n, rfl⟩
  refine ⟨?_, Pur.drewN n (Pur.refl w)⟩
  obtain ⟨h1, h2, h3⟩ := cut_byte p 58
  show Ending.returned (.tuple #[.string ⟨(Lib.cut p [58]).1.toArray⟩, .string ⟨(Lib.cut p [58]).2.1.toArray⟩, .bool (Lib.cut p [58]).2.2]) = _
  rw [h1, h2, h3]
theorem trim_any (l cs : Bytes) (w : World) (hs : l.length ≤ 1000000000) (hc : cs.length ≤ 100) (ha : cs.all (fun b => decide (b.toNat < 128)) = true) :
    Calls Tryz.prog 35 #[.string ⟨l.toArray⟩, .string ⟨cs.toArray⟩] w fun e w' => e = .returned (.string ⟨(Lib.trimS l cs).toArray⟩) ∧ Pur w w' := by
  have hcon := Any.strings_Trim_laid Tryz.lays160 (by kernel_rfl) ⟨l.toArray⟩ ⟨cs.toArray⟩ w (by show l.toArray.size ≤ _; simp; omega) (by show cs.toArray.size < _; simp; omega) (ascii_of_all (by simpa using ha))
  refine hcon.mono ?_
  rintro e w' ⟨rfl, hb⟩
  exact ⟨by simp, hb⟩
theorem trimb_any (l : Bytes) (w : World) (hs : l.length ≤ 1000000000) :
    Calls Tryz.prog 35 #[.string ⟨l.toArray⟩, .string ⟨#[32, 9]⟩] w fun e w' => e = .returned (.string ⟨(trim l).toArray⟩) ∧ Pur w w' := by
  rw [← trimS_trim]
  exact trim_any l [32, 9] w hs (by decide) (by decide)
theorem trimd_any (l : Bytes) (w : World) (hs : l.length ≤ 1000000000) :
    Calls Tryz.prog 35 #[.string ⟨l.toArray⟩, .string ⟨#[48, 49, 50, 51, 52, 53, 54, 55, 56, 57]⟩] w fun e w' => e = .returned (.string ⟨(Lib.trimS l dmarks).toArray⟩) ∧ Pur w w' :=
  trim_any l dmarks w hs (by decide) (by decide)
/-- digits say what they say -/
theorem atoi_digits (l : Bytes) (h0 : l ≠ []) (hd : digitsB l = true) (h9 : l.length ≤ 9) : Lib.atoiAll l = .ok (dval 0 l) := by
  have hb := dval_lt l 0 hd
  have h10 : (10 : Nat) ^ l.length ≤ 10 ^ 9 := Nat.pow_le_pow_right (by decide) h9
  cases hl : l with
  | nil => exact absurd hl h0
  | cons c r =>
    rw [hl] at hd hb h10
    have hc : 48 ≤ c.toNat ∧ c.toNat ≤ 57 := by
      unfold digitsB at hd
      rw [List.all_cons, Bool.and_eq_true] at hd
      simpa [digB] using hd.1
    unfold Lib.atoiAll Lib.parseMag
    have e1 : ¬ (c.toNat = 43 ∨ c.toNat = 45) := by omega
    have e2 : ¬ c.toNat = 45 := by omega
    have e3 : ¬ c.toNat = 43 := by omega
    simp only [e2, e3, or_self, if_false]
    rw [if_neg (by simp), parse_dval (c :: r) 0 hd (by omega)]
    simp only [not_false_eq_true, true_and, false_and, if_false]
    rw [if_neg (by omega)]
theorem atoid_any (l : Bytes) (w : World) (h0 : l ≠ []) (hd : digitsB l = true) (h9 : l.length ≤ 9) :
    Calls Tryz.prog 39 #[.string ⟨l.toArray⟩] w fun e w' => e = .returned (.tuple #[.int .i64 (dval 0 l : Nat), .nilIface]) ∧ Pur w w' := by
  refine (Tryz.strconv_Atoi_ok ⟨l.toArray⟩ (by show l.toArray.size ≤ _; simp; omega) (dval 0 l) (by simpa using atoi_digits l h0 hd h9) w).mono ?_
  rintro e w' ⟨rfl, hw⟩
  refine ⟨rfl, ?_⟩
  rcases hw with rfl | ⟨t, rfl⟩
  · exact Pur.refl _
  · exact Lib.bytesWorld_below _ _ _
theorem itoa_any (n : Int) (w : World) (hW : HW w) (h0 : -9223372036854775808 ≤ n) (h1 : n ≤ 9223372036854775807) :
    Calls Tryz.prog 29 #[.int .i64 n] w fun e w' => e = .returned (.string ⟨(Lib.itoa n).toArray⟩) ∧ Pur w w' := by
  refine (Tryz.strconv_Itoa n h0 h1 w hW.pow).mono ?_
  rintro e w' ⟨rfl, k, os, rfl⟩
  exact ⟨rfl, Lib.below_grow _ _ (Nat.le_refl _) _ _⟩
end Go.Proofs.YtlgdkaeiadhiaaaGreatDoor
