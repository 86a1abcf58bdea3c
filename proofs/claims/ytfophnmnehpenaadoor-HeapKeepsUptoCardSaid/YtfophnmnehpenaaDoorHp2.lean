/- Layer 8: Index and Key, both. -/
import Derived.Test.YtfophnmnehpenaaDoorDigH
import Derived.Lib.LaidTab
import Derived.Lib.SmallJoins
import Derived.Shelf.Unicode.PredsPay
import Derived.Lib.AppendIntMem
namespace Go.Proofs.YtfophnmnehpenaaDoor
open Go Go.RowKit
set_option linter.all false
set_option maxRecDepth 100000 in
set_option maxHeartbeats 2000000 in
theorem of_any (l : List UInt8) (w : World) (hs : l.length ≤ 1000000) :
    Calls Tryd.prog 19 #[.string ⟨l.toArray⟩] w fun e w' => e = .returned (.string ⟨(wide8 l).toArray⟩) ∧ Pur w w' := by
  have hsn : ∀ n, n < l.length → wide8 (l.take (n + 1)) = wide8 (l.take n) ++ unit8 (by8 l n) := by
    intro n hn
    rw [List.take_succ_eq_append_getElem hn]
    have e : unit8 (by8 l n) = [0, l[n]] := by
      unfold unit8 by8
      have hl := l[n].toNat_lt
      simp only [List.getD_eq_getElem?_getD, List.getElem?_eq_getElem hn, Option.getD_some]
      rw [Nat.div_eq_of_lt hl, Nat.mod_eq_of_lt hl]
      simp
    rw [e]
    simp only [wide8, List.flatMap_append, List.flatMap_cons, List.flatMap_nil, List.append_nil]
  go_enter Tryd.func19, Tryd.ntmps19
  go_wp2
  go_loopw [3, 4] (fun a k wr => ∃ n : Nat, n ≤ l.length ∧ k = .int .i64 n ∧ a = .string ⟨(wide8 (l.take n)).toArray⟩ ∧ Pur w wr) (fun _ k _ => l.length + 1 - (intOf k).toNat)
  case atStart => exact ⟨0, by omega, rfl, rfl, Pur.refl w⟩
  case round =>
    obtain ⟨n, hn, rfl, rfl, hpr⟩ := hrel
    by_cases hlt : n < l.length
    · have hlt' : (n : Int) < l.length := by omega
      have cb := by8_lt l n
      have HS := Lib.hid (hsn n hlt)
      have hwl := wide8_len (l.take n)
      rw [List.length_take] at hwl
      have U := fun w => runit_any (by8 l n : Nat) w (by omega) (by omega)
      have ut : ((by8 l n : Nat) : Int).toNat = by8 l n := by omega
      rw [ut] at U
      clear ut
      have z1 : ¬ 9223372036854775807 < (wide8 (l.take n)).length + 2 := by omega
      generalize wide8 (l.take n) = acc at *
      clear hsn
      go_wp2_with fail
      refine (U _).mono ?_
      rintro e w1 ⟨rfl, h1⟩
      go_wp2
      go_roundw
      case rel => exact ⟨n + 1, by omega, by go_num, by rw [HS.out], hpr.trans h1⟩
      case measure => simp [intOf]; omega
    · obtain rfl : n = l.length := by omega
      rw [List.take_length]
      clear hsn
      go_wp2
      go_ret
      exact ⟨rfl, hpr⟩
/-- the variables of Go's library that this package reads -/
structure HpW (w : World) : Prop where
  tabs : Lib.Utf8Tabs 1 2 w
  pow : Lib.TabIs Tryd.prog w "internal/strconv.uint64pow10" .u64 Lib.pow10Tab
theorem HpW.pur {w w' : World} (h : HpW w) (hp : Pur w w') : HpW w' := ⟨Utf8Tabs_below h.1 hp, TabIs_below (g := 3) (by kernel_rfl) h.2 hp⟩
theorem wide_ascii (l : List UInt8) (h : ∀ c ∈ l, c.toNat < 128) : wideR l = (wide8 l, 0, 0) := by
  have key : ∀ (k i : Nat) (acc : List UInt8), l.length - i = k → i ≤ l.length → wideGo l i acc = (acc ++ wide8 (l.drop i), 0, 0) := by
    intro k
    induction k with
    | zero =>
      intro i acc hk hi
      rw [wideGo, if_neg (by omega), List.drop_eq_nil_of_le (by omega)]
      simp [wide8]
    | succ k ih =>
      intro i acc hk hi
      have hlt : i < l.length := by omega
      have hb : by8 l i < 128 := by
        have := h l[i] (List.getElem_mem hlt)
        simpa [by8, hlt] using this
      have hc : chr l i = (by8 l i, 1) := by unfold chr; rw [if_neg (by omega), if_pos hb]
      rw [wideGo, if_pos hlt, hc]
      simp only
      rw [if_neg (by decide), ih (i + 1) _ (by omega) (by omega), List.drop_eq_getElem_cons hlt]
      have hu : units (by8 l i) = [0, l[i]] := by
        unfold units
        rw [if_neg (by omega)]
        unfold unit8 by8
        have hl := l[i].toNat_lt
        simp only [List.getD_eq_getElem?_getD, List.getElem?_eq_getElem hlt, Option.getD_some]
        rw [Nat.div_eq_of_lt hl, Nat.mod_eq_of_lt hl]
        simp
      rw [hu]
      simp only [wide8, List.flatMap_cons, List.append_assoc]
  have := key l.length 0 [] (by omega) (by omega)
  simpa [wideR] using this
theorem itoa_ascii (n : Int) : ∀ c ∈ Lib.itoa n, c.toNat < 128 := by
  have hd : ∀ u, ∀ c ∈ Lib.decDigits u, c.toNat < 128 := fun u c hc => by
    have := List.all_eq_true.1 (decDigits_facts u).2.1 c hc
    simp [digB] at this
    omega
  intro c hc
  rw [Lib.itoa] at hc
  split at hc
  · rcases List.mem_cons.1 hc with rfl | hc
    · decide
    · exact hd _ c hc
  · exact hd _ c hc
theorem itoa_short (n : Int) (h0 : -9223372036854775808 ≤ n) (h1 : n ≤ 9223372036854775807) : (Lib.itoa n).length ≤ 20 := by
  rw [Lib.itoa]
  split
  · have := dec_len n.natAbs (by omega); simp only [List.length_cons]; omega
  · have := dec_len n.toNat (by omega); omega
set_option maxRecDepth 100000 in
theorem key_any (n : Int) (w : World) (hW : HpW w) (h0 : -9223372036854775808 ≤ n) (h1 : n ≤ 9223372036854775807) :
    Calls Tryd.prog 11 #[.int .i64 n] w fun e w' => e = .returned (.string ⟨(keyOf n).toArray⟩) ∧ Pur w w' := by
  have hl := itoa_short n h0 h1
  have W := fun w hT => wide_any (Lib.itoa n) w hT (by omega)
  rw [wide_ascii _ (itoa_ascii n)] at W
  have I := fun (w : World) (hW : HpW w) => Tryd.strconv_Itoa n h0 h1 w hW.pow
  go_enter Tryd.func11, Tryd.ntmps11
  go_wp2_with fail
  refine (I _ hW).mono ?_
  rintro e w1 ⟨rfl, k, os, hw1⟩
  have hp : Pur w w1 := by rw [hw1]; exact Lib.below_grow _ _ (Nat.le_refl _) _ _
  clear hw1
  go_wp2_with fail
  refine (W _ (hW.pur hp).tabs).mono ?_
  rintro e w2 ⟨rfl, h2⟩
  go_wp2
  go_ret
  exact ⟨rfl, hp.trans h2⟩
set_option maxRecDepth 100000 in
theorem rkey_any (n : Int) (w : World) (h0 : -9223372036854775808 ≤ n) (h1 : n ≤ 9223372036854775807) :
    Calls Tryd.prog 12 #[.int .i64 n] w fun e w' => e = .returned (.string ⟨(keyOf n).toArray⟩) ∧ Pur w w' := by
  have hl := itoa_short n h0 h1
  have D := fun w => rdigits_any n w h0 h1
  have O := fun w => of_any (Lib.itoa n) w (by omega)
  go_enter Tryd.func12, Tryd.ntmps12
  go_wp2_with fail
  refine (D _).mono ?_
  rintro e w1 ⟨rfl, hh1⟩
  go_wp2_with fail
  refine (O _).mono ?_
  rintro e w2 ⟨rfl, h2⟩
  go_wp2
  go_ret
  exact ⟨rfl, hh1.trans h2⟩
end Go.Proofs.YtfophnmnehpenaaDoor
