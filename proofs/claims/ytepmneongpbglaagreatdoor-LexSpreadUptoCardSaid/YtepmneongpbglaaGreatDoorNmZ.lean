/- The library's reading of every number of layer 4: it ends, and says one and the same. The wide text of plain bytes is those bytes. Layer 4: the number of a wide text that is one: it ends, and says one and the same. -/
import Derived.Test.YtepmneongpbglaaGreatDoorHxX
import Derived.Test.YtepmneongpbglaaGreatDoorRfX
import Derived.Test.YtepmneongpbglaaGreatDoorNmP
import Derived.Test.YtepmneongpbglaaGreatDoorLkX
import Derived.Test.YtepmneongpbglaaGreatDoorNm3
import Derived.Test.YtepmneongpbglaaGreatDoorLk14
namespace Go.Proofs.YtepmneongpbglaaGreatDoor
open Go Go.RowKit
set_option linter.all false
namespace Us
theorem step_nm {hex : Bool} {c : Nat} {s t : Rf.Rs} (hs : Rf.step hex c s = some t) : (s.nm ≤ s.nd → t.nm ≤ t.nd) ∧ t.nd ≤ s.nd + 1 := by
  unfold Rf.step at hs
  have hp : ∀ d z, (s.nm ≤ s.nd → (Rf.put hex d z s).nm ≤ (Rf.put hex d z s).nd) ∧ (Rf.put hex d z s).nd ≤ s.nd + 1 := fun d z => by
    unfold Rf.put; split <;> simp only <;> omega
  split at hs
  · split at hs <;> cases hs
    exact ⟨fun h => h, by simp only; omega⟩
  · split at hs
    · split at hs <;> cases hs
      · exact ⟨fun h => h, by simp only; omega⟩
      · exact hp _ _
    · split at hs <;> cases hs
      exact hp _ _
theorem go_nm (l : List UInt8) (hex : Bool) : ∀ f s, s.nm ≤ s.nd → (Rf.go l hex f s).nm ≤ (Rf.go l hex f s).nd
  | 0, s, h => h
  | f + 1, s, h => by
    rw [Rf.go]
    split
    · cases hs : Rf.step hex (by8 l s.i) s with
      | none => exact h
      | some t => exact go_nm l hex f t ((step_nm hs).1 h)
    · exact h
theorem digs_inv (l : List UInt8) (hex : Bool) (i : Nat) : Rf.Inv hex (Rf.digs l hex i) ∧ (Rf.digs l hex i).nm ≤ (Rf.digs l hex i).nd :=
  ⟨(Rf.go_inv l hex (l.length + 1) (Rf.start i) (Rf.start_inv _ _)).1, go_nm l hex (l.length + 1) (Rf.start i) (Nat.le_refl _)⟩
/-- every decimal number -/
theorem dec_ad {Hi Lo T : Nat → Nat} (hF : ∀ k, k < 23 → Fl.Fin (T k)) {s : List UInt8} (h : Nm.decimal s = true) (hl : s.length ≤ 100000) : ∃ x b, AD Hi Lo T s x b := by
  obtain ⟨hW, hH, hS, hU, h0, hd, -⟩ := Nm.dec_whole h
  have hf0 : Rf.from0 s = 0 := by unfold Rf.from0; rw [hS, hH]; rfl
  have hng : Rf.neg s = false := by unfold Rf.neg; rw [beq_eq_false_iff_ne]; exact hd 45 (by simp)
  have hR : RD s (Rf.digs s false 0).mant (Rf.pow s false 0) (Rf.digs s false 0).trunc := fun w => by
    refine (Rf.readFloat_dec s w (by omega) h0 hU (by rw [hS, hH, hf0]; exact hW) (by rw [hS]; exact hH)).mono ?_
    rintro e w' hp
    unfold Rf.RfPost at hp
    rw [hS, hH, hf0, hng] at hp
    exact hp
  obtain ⟨inv, hil⟩ := Rf.go_inv s false (s.length + 1) (Rf.start 0) (Rf.start_inv _ _)
  rw [show Rf.go s false (s.length + 1) (Rf.start 0) = Rf.digs s false 0 from rfl] at inv hil
  have hil := hil (Nat.zero_le _)
  have hm : (Rf.digs s false 0).mant + 1 < 18446744073709551616 := by
    have h1 := inv.mant
    have h2 : Rf.bs false ^ (Rf.digs s false 0).nm ≤ 10 ^ 19 := Nat.pow_le_pow_right (by decide) inv.nm
    have h3 : (10 : Nat) ^ 19 < 18446744073709551615 := by decide
    omega
  have hex : -100010 ≤ Rf.exPart s (Rf.digs s false 0).i ∧ Rf.exPart s (Rf.digs s false 0).i ≤ 100010 := by
    unfold Rf.exPart
    split
    · rename_i hlt
      rcases hW.2 with ⟨h, -⟩ | ⟨h1, h2, h3, h4⟩
      · omega
      · have hE := Rf.exGo_lt s (s.length + 1) (Rf.exAt s (Rf.digs s false 0).i) 0 (by omega) h4
        unfold Rf.exOf
        split <;> omega
    · omega
  have hnm : (Rf.digs s false 0).nm ≤ 19 := inv.nm
  have hpw : -2000000 ≤ Rf.pow s false 0 ∧ Rf.pow s false 0 ≤ 2000000 := by
    have hlo := inv.lo
    have hhi := inv.hi
    have hnd := inv.nd
    unfold Rf.pow
    simp only
    split
    · omega
    · unfold Rf.dpOf
      simp only [Bool.false_eq_true, if_false, Int.mul_one]
      split <;> omega
  by_cases hq : (Rf.digs s false 0).trunc = true → (FloatKind.f64.format.order (rd Hi Lo (Rf.digs s false 0).mant (Rf.pow s false 0)).1 (rd Hi Lo ((Rf.digs s false 0).mant + 1) (Rf.pow s false 0)).1 == some Ordering.eq) = true
  · exact atof_most hF hR hm hpw.1 hpw.2 (by omega) h0 hd hq
  · have ht : (Rf.digs s false 0).trunc = true := by
      cases hc : (Rf.digs s false 0).trunc with
      | true => rfl
      | false => exact absurd (fun h => by rw [hc] at h; cases h) hq
    have hq2 : (FloatKind.f64.format.order (rd Hi Lo (Rf.digs s false 0).mant (Rf.pow s false 0)).1 (rd Hi Lo ((Rf.digs s false 0).mant + 1) (Rf.pow s false 0)).1 == some Ordering.eq) = false := by
      cases hc : (FloatKind.f64.format.order (rd Hi Lo (Rf.digs s false 0).mant (Rf.pow s false 0)).1 (rd Hi Lo ((Rf.digs s false 0).mant + 1) (Rf.pow s false 0)).1 == some Ordering.eq) with
      | false => rfl
      | true => exact absurd (fun _ => hc) hq
    by_cases he : (Rf.digs s false 0).mant = 0 ∨ 310 < Rf.pow s false 0 ∨ Rf.pow s false 0 < -345
    · exact atof_edge hR (by omega) hpw.1 hpw.2 (by omega) h0 hd he
    · rw [ht] at hR
      exact ⟨_, _, atof_slow hR rfl hW hU (by omega) hm (by omega) (by omega) (by omega) h0 hd hq2⟩
set_option maxRecDepth 100000 in
set_option maxHeartbeats 4000000 in
theorem atof_hexf {Hi Lo T : Nat → Nat} {l : List UInt8} {m : Nat} {p : Int} {tr : Bool} (hR : ∀ w, Calls Tryz.prog 88 #[.string ⟨l.toArray⟩] w fun e w' => e = .returned (.tuple #[.int .u64 (m : Int), .int .i64 p, .bool false, .bool tr, .bool true, .int .i64 (l.length : Int), .bool true]) ∧ w = w')
    (hm : m < 18446744073709551616) (hp0 : 0 ≤ p) (hp : p ≤ 10000000) (hl : l.length ≤ 1000000) (h0 : 0 < l.length) (h48 : by8 l 0 = 48) : AD Hi Lo T l (Hx.hexF m p tr).1 (Hx.hexF m p tr).2 := by
  have SP := fun w => Rf.special_no l w h0 (by omega) (by omega) (by omega) (by omega) (by omega) (by omega)
  have HX := fun s w (h : Rf.F64 w) => Hx.hexf_any s m p tr w h hm hp0 hp
  generalize Hx.hexF m p tr = B at *
  intro w hW
  have hF := hW.f
  clear h48 hm hp0 hp hW
  unfold errV at *
  obtain ⟨x, b⟩ := B
  cases b
  all_goals
    simp only [if_true, Bool.false_eq_true, if_false] at HX ⊢
    go_enter Tryz.func83, Tryz.ntmps83
    go_wp2_with fail
    refine (SP _).mono ?_
    rintro e w1 ⟨rfl, rfl⟩
    go_wp2_with fail
    refine (hR _).mono ?_
    rintro e w1 ⟨rfl, rfl⟩
    go_wp2_with fail
    refine (HX _ _ hF).mono ?_
    rintro e w1 ⟨rfl, p1⟩
    go_wp2
    go_ret3
    exact ⟨rfl, p1⟩
/-- every number by sixteens -/
theorem hex_ad {Hi Lo T : Nat → Nat} {s : List UInt8} (h : Nm.isHex s = true) (hl : s.length ≤ 100000) : ∃ x b, AD Hi Lo T (s ++ [112, 48]) x b := by
  obtain ⟨hW, hH, hS, hU, h48⟩ := Nm.hex_whole h
  have hlen : (s ++ [112, 48]).length = s.length + 2 := by rw [List.length_append]; rfl
  have hsl : 2 < s.length := by unfold Nm.isHex at h; rw [decide_eq_true_eq] at h; exact h.1
  have hf0 : Rf.from0 (s ++ [112, 48]) = 2 := by unfold Rf.from0; rw [hS, hH]; rfl
  have hng : Rf.neg (s ++ [112, 48]) = false := by unfold Rf.neg; rw [h48]; rfl
  obtain ⟨inv, hnm⟩ := digs_inv (s ++ [112, 48]) true 2
  have hi : (Rf.digs (s ++ [112, 48]) true 2).i = s.length ∧ (Rf.digs (s ++ [112, 48]) true 2).dot = false := Nm.hex_digs h
  have a3 : by8 (s ++ [112, 48]) (s.length + 1) = 48 := by rw [Nm.by8_app2]; rfl
  have hex : Rf.exPart (s ++ [112, 48]) s.length = 0 := by
    have hat : Rf.exAt (s ++ [112, 48]) s.length = s.length + 1 := by unfold Rf.exAt; rw [a3]; rfl
    unfold Rf.exPart
    rw [hlen, if_pos (by omega)]
    unfold Rf.exOf
    rw [a3, if_neg (by decide), hat, hlen, Rf.exGo, hlen, if_pos (by omega), a3, if_pos (by decide), Rf.exGo, hlen, if_neg (by omega)]
    rfl
  have hpw : 0 ≤ Rf.pow (s ++ [112, 48]) true 2 ∧ Rf.pow (s ++ [112, 48]) true 2 ≤ 10000000 := by
    have hnd := inv.nd
    unfold Rf.pow
    simp only
    split
    · omega
    · unfold Rf.dpOf
      rw [hi.1, hex, hi.2]
      simp only [Bool.false_eq_true, if_false, if_true]
      rw [hi.1] at hnd
      omega
  refine ⟨_, _, atof_hexf (tr := (Rf.digs (s ++ [112, 48]) true 2).trunc) (fun w => ?_) inv.lt64 hpw.1 hpw.2 (by omega) (by omega) h48⟩
  refine (Rf.readFloat_hex (s ++ [112, 48]) w (by omega) (by omega) hU (by rw [hS, hH, hf0]; exact hW) (by rw [hS]; exact hH)).mono ?_
  rintro e w' hp
  unfold Rf.RfPost at hp
  rw [hS, hH, hf0, hng] at hp
  exact hp
end Us
end Go.Proofs.YtepmneongpbglaaGreatDoor
namespace Go.Proofs.YtepmneongpbglaaGreatDoor
open Go Go.RowKit
set_option linter.all false
namespace Nm
open Lx (w16)
theorem w16_len : ∀ t : List UInt8, (w16 t).length = 2 * t.length
  | [] => rfl
  | b :: r => by
    have h := w16_len r
    unfold w16 at h ⊢
    rw [List.flatMap_cons, List.length_append, h]; simp; omega
theorem w16_by : ∀ (t : List UInt8) (i : Nat), by8 (w16 t) (2 * i) = 0 ∧ by8 (w16 t) (2 * i + 1) = by8 t i
  | [], i => by
    have h : ∀ k, by8 ([] : List UInt8) k = 0 := fun k => by8_out _ (by simp)
    exact ⟨h _, by rw [show w16 [] = [] from rfl, h, h]⟩
  | b :: r, 0 => ⟨rfl, rfl⟩
  | b :: r, i + 1 => by
    have h := w16_by r i
    have e : w16 (b :: r) = 0 :: b :: w16 r := rfl
    rw [e, show 2 * (i + 1) = 2 * i + 1 + 1 by omega, by8_cons, by8_cons, show 2 * i + 1 + 1 + 1 = (2 * i + 1) + 1 + 1 by omega, by8_cons, by8_cons, by8_cons]
    exact h
theorem at_w16 (t : List UInt8) (i : Nat) : at16 (w16 t) i = by8 t i := by
  have h := w16_by t i
  unfold at16
  first
    | (rw [show 2 * i = 2 * i from rfl, h.1, h.2]; omega)
    | (rw [Nat.mul_comm] at h; rw [h.1, h.2]; omega)
/-- what stands in numbers: below 128, no blank -/
def Pl (t : List UInt8) : Prop := ∀ k, k < t.length → by8 t k < 128 ∧ blank (by8 t k) = false
theorem bytes_w16 {t : List UInt8} (h : Pl t) : ∀ f i, f + i = t.length → bytesGo (w16 t) t.length f i = some (t.drop i)
  | 0, i, e => by rw [bytesGo, List.drop_of_length_le (by omega)]
  | f + 1, i, e => by
    have hk := h i (by omega)
    rw [bytesGo, if_pos (by omega), at_w16, if_neg (by omega), bytes_w16 h f (i + 1) (by omega)]
    rw [List.drop_eq_getElem_cons (by omega : i < t.length)]
    simp [by8, List.getD_eq_getElem?_getD, List.getElem?_eq_getElem (by omega : i < t.length)]
theorem plain_w16 {t : List UInt8} (h : Pl t) (h0 : 0 < t.length) : plain (w16 t) = some t := by
  have hl : (w16 t).length / 2 = t.length := by rw [w16_len]; omega
  have hf : fromI (w16 t) = 0 := by
    unfold fromI
    rw [hl]
    obtain ⟨n, hn⟩ : ∃ n, t.length = n + 1 := ⟨t.length - 1, by omega⟩
    rw [hn, fromGo, if_pos (by omega), at_w16, (h 0 h0).2]
    rfl
  have ht : toI (w16 t) = t.length := by
    unfold toI
    rw [hl, hf]
    obtain ⟨n, hn⟩ : ∃ n, t.length = n + 1 := ⟨t.length - 1, by omega⟩
    rw [hn, toGo, if_pos (by omega), at_w16, (h n (by omega)).2]
    rfl
  unfold plain
  rw [hf, ht, Nat.sub_zero, bytes_w16 h t.length 0 (by omega), List.drop_zero]
theorem blank_no : ∀ c, c < 128 → 33 ≤ c → blank c = false := by decide +kernel
theorem dec_pl {t : List UInt8} (h : decimal t = true) : Pl t := by
  obtain ⟨M, -, -, -, -, -, h6, -, -⟩ := dec_shape h
  intro k hk
  have hb : 33 ≤ by8 t k ∧ by8 t k < 128 := by
    rcases h6 k hk with g | g | g | g | g | g
    · have := dig_byte g; omega
    all_goals omega
  exact ⟨hb.2, blank_no _ hb.2 hb.1⟩
theorem hex_pl {t : List UInt8} (h : isHex t = true) : Pl t := by
  unfold isHex at h
  rw [decide_eq_true_eq] at h
  obtain ⟨h1, h2, h3, h4⟩ := h
  intro k hk
  have hb : 33 ≤ by8 t k ∧ by8 t k < 128 := by
    rcases (show k = 0 ∨ k = 1 ∨ 2 ≤ k by omega) with e | e | e
    · rw [e]; omega
    · rw [e]; omega
    · obtain ⟨b, b1, b2⟩ := runGo_at hexes (t.drop 2) (k - 2) (by omega)
      rw [by8_drop, show 2 + (k - 2) = k by omega] at b1
      rw [← b1]
      rcases hex_in b b2 with g | ⟨-, g, -⟩
      · have := dig_byte g; omega
      · have hall : ∀ c, c < 256 → Rf.hexC c = true → 33 ≤ c ∧ c < 128 := by decide +kernel
        exact hall _ (UInt8.toNat_lt b) g
  exact ⟨hb.2, blank_no _ hb.2 hb.1⟩
end Nm
end Go.Proofs.YtepmneongpbglaaGreatDoor
namespace Go.Proofs.YtepmneongpbglaaGreatDoor
open Go Go.RowKit
set_option linter.all false
namespace Nm
open Us (FW AD)
/-- the library's variables that a number asks -/
structure NW (Hi Lo T : Nat → Nat) (w : World) : Prop where
  fw : FW Hi Lo T w
  er : ∃ ev, w.cell? ⟨6, 0, none⟩ = some ev ∧ (ev = .nilIface ∨ ∃ te pe, ev = .iface te pe)
theorem NW.pur {Hi Lo T : Nat → Nat} {w w' : World} (h : NW Hi Lo T w) (hp : Pur w w') : NW Hi Lo T w' := by
  obtain ⟨ev, h1, h2⟩ := h.er
  exact ⟨h.fw.pur hp, ev, Us.cellp h1 hp, h2⟩
theorem pf_any {Hi Lo T : Nat → Nat} {l : List UInt8} {x : Nat} {b : Bool} (hA : AD Hi Lo T l x b) (hl : l.length ≤ 1000000) {w : World} (hW : NW Hi Lo T w) :
    Calls Tryz.prog 58 #[.string ⟨l.toArray⟩, .int .i64 64] w fun e w' => (e = .returned (.tuple #[.float .f64 x, .nilIface]) ∨ ∃ te pe, e = .returned (.tuple #[.float .f64 x, .iface te pe])) ∧ Pur w w' := by
  cases b with
  | false =>
    refine (Us.parse_ok hA hl hW.fw).mono ?_
    rintro e w' ⟨h1, h2⟩
    exact ⟨.inl h1, h2⟩
  | true =>
    obtain ⟨ev, h1, h2⟩ := hW.er
    refine (Us.parse_range hA hl hW.fw h1 h2).mono ?_
    rintro e w' ⟨h1, h2⟩
    exact ⟨.inr h1, h2⟩
set_option maxRecDepth 100000 in
set_option maxHeartbeats 8000000 in
theorem number_hex2 {Hi Lo T : Nat → Nat} {l s : List UInt8} {x : Nat} {b : Bool} {w : World} (hl : l.length ≤ 1000000) (hp : plain l = some s) (hx : isHex s = true) (hA : AD Hi Lo T (s ++ [112, 48]) x b) (hW : NW Hi Lo T w) :
    Calls Tryz.prog 45 #[.string ⟨l.toArray⟩] w fun e w' => e = .returned (.float .f64 x) ∧ Pur w w' := by
  have PL := plain_any l w (by omega)
  have hsl := plain_len hp
  have PF : ∀ w', Pur w w' → _ := fun w' h => pf_any hA (by rw [List.length_append]; simp; omega) (hW.pur h)
  rw [hp] at PL
  unfold PlainPost at PL
  unfold isHex at hx
  rw [decide_eq_true_eq] at hx
  obtain ⟨x1, x2, x3, x4⟩ := hx
  have x1' : (2 : Int) < s.length := by omega
  have x5 : (1 : Int) < s.length := by omega
  have x6 : (0 : Int) < s.length := by omega
  have hb1 := by8_lt s 1
  have ho : bits .or .u8 (by8 s 1 : Int) 32 = 120 := by
    have := u8_or_nat (by8 s 1) 32 hb1 (by decide)
    rw [show ((32 : Nat) : Int) = 32 from rfl] at this
    rw [this]
    rcases x3 with h | h <;> rw [h] <;> rfl
  have d0 : ((by8 s 0 : Int) == 48) = true := by rw [beq_iff_eq]; omega
  have hne : ¬ s = [] := by intro e; rw [e] at x1; simp at x1
  have hne2 : s.isEmpty = false := by cases s with | nil => exact absurd rfl hne | cons _ _ => rfl
  have hsub : sub s 2 s.length = s.drop 2 := by unfold sub; rw [List.take_of_length_le (by rw [List.length_drop]; omega)]
  have RU := fun w => run_any (sub s 2 s.length) hexes w (by rw [hsub, List.length_drop]; omega)
  rw [hsub, x4, show ((s.length - 2 : Nat) : Int) = (s.length : Int) - 2 by omega, ← hsub] at RU
  have w2 : IntKind.i64.wrap ((s.length : Int) - 2) = (s.length : Int) - 2 := IntWalk.i64_in _ (by omega)
  have z1 : ¬ 9223372036854775807 < s.length + 2 := by omega
  have z2 : ¬ 9223372036854775807 < s.length + 1 + 1 := by omega
  clear hp hsl x2 x3 x4 hsub hA hW
  go_enter Tryz.func45, Tryz.ntmps45
  go_wp2_with fail
  refine PL.mono ?_
  rintro e w1 ⟨rfl, p1⟩
  have PF1 := PF w1 p1
  clear PF PL
  go_wp2_with fail
  refine (RU _).mono ?_
  rintro e w2 ⟨rfl, rfl⟩
  go_wp2_with fail
  refine PF1.mono ?_
  rintro e w2 ⟨he, p2⟩
  rcases he with rfl | ⟨te, pe, rfl⟩
  all_goals
    go_wp2
    go_ret
    exact ⟨rfl, p1.trans p2⟩
set_option maxRecDepth 100000 in
set_option maxHeartbeats 8000000 in
theorem number_dec {Hi Lo T : Nat → Nat} {l s : List UInt8} {x : Nat} {b : Bool} {w : World} (hl : l.length ≤ 1000000) (hp : plain l = some s) (hx : decimal s = true) (hA : AD Hi Lo T s x b) (hW : NW Hi Lo T w) :
    Calls Tryz.prog 45 #[.string ⟨l.toArray⟩] w fun e w' => e = .returned (.float .f64 x) ∧ Pur w w' := by
  have PL := plain_any l w (by omega)
  have hsl := plain_len hp
  have PF : ∀ w', Pur w w' → _ := fun w' h => pf_any hA (by omega) (hW.pur h)
  rw [hp] at PL
  unfold PlainPost at PL
  obtain ⟨-, -, -, -, h0, hd, hnx⟩ := dec_whole hx
  have DE := fun w => decimal_any s w (by omega)
  rw [hx] at DE
  have x6 : (0 : Int) < s.length := by omega
  have hne : ¬ s = [] := by intro e; rw [e] at h0; simp at h0
  have hne2 : s.isEmpty = false := by cases s with | nil => exact absurd rfl hne | cons _ _ => rfl
  have hb1 := by8_lt s 1
  have ho := u8_or_nat (by8 s 1) 32 hb1 (by decide)
  rw [show ((32 : Nat) : Int) = 32 from rfl] at ho
  have d1 : ((by8 s 0 : Int) == 43) = false := by rw [beq_eq_false_iff_ne]; have := hd 43 (by simp); omega
  have d2 : ((by8 s 0 : Int) == 45) = false := by rw [beq_eq_false_iff_ne]; have := hd 45 (by simp); omega
  have hinf : (s == [73, 110, 102, 105, 110, 105, 116, 121]) = false := by
    rw [beq_eq_false_iff_ne]; intro e
    exact hd 73 (by simp) (by rw [e]; rfl)
  have hinf2 : ¬ s = [73, 110, 102, 105, 110, 105, 116, 121] := by simpa using hinf
  obtain ⟨o, hO⟩ : ∃ o, (by8 s 1 ||| 32) = o := ⟨_, rfl⟩
  rw [hO] at ho hnx
  clear hp hsl hx hA hW hd hO
  rcases t1 : decide ((2 : Int) < (s.length : Int)) with _ | _ <;> rcases t2 : ((by8 s 0 : Int) == 48) with _ | _ <;> rcases t3 : ((o : Int) == 120) with _ | _
  all_goals
    first
      | (exfalso; apply hnx; rw [beq_iff_eq] at t2 t3; omega)
      | (skip
         first
           | (have x1 : (1 : Int) < s.length := by rw [decide_eq_true_eq] at t1; omega)
           | skip
         clear hnx
         go_enter Tryz.func45, Tryz.ntmps45
         go_wp2_with fail
         refine PL.mono ?_
         rintro e w1 ⟨rfl, p1⟩
         have PF1 := PF w1 p1
         clear PF PL
         go_wp2_with fail
         refine (DE _).mono ?_
         rintro e w2 ⟨rfl, rfl⟩
         go_wp2_with fail
         refine PF1.mono ?_
         rintro e w2 ⟨he, p2⟩
         rcases he with rfl | ⟨te, pe, rfl⟩
         all_goals
           go_wp2
           go_ret
           exact ⟨rfl, p1.trans p2⟩)
/-- what a number's text says -/
noncomputable def val (Hi Lo T : Nat → Nat) (t : List UInt8) : Nat := open Classical in if h : ∃ x b, AD Hi Lo T t x b then Classical.choose h else 0
theorem val_ad {Hi Lo T : Nat → Nat} {t : List UInt8} (h : ∃ x b, AD Hi Lo T t x b) : ∃ b, AD Hi Lo T t (val Hi Lo T t) b := by
  unfold val
  rw [dif_pos h]
  exact Classical.choose_spec h
noncomputable def nv (Hi Lo T : Nat → Nat) (t : List UInt8) : Nat := if isHex t then val Hi Lo T (t ++ [112, 48]) else val Hi Lo T t
/-- the numbers of layer 4 -/
def CN (t : List UInt8) : Bool := decide (t.length ≤ 100000) && (isHex t || decimal t)
theorem nc_all {Hi Lo T : Nat → Nat} (hF : ∀ k, k < 23 → Fl.Fin (T k)) {w : World} (hW : NW Hi Lo T w) : Lx.NC w (fun t x => x = nv Hi Lo T t) CN := by
  intro t ht w' hp
  unfold CN at ht
  rw [Bool.and_eq_true, decide_eq_true_eq, Bool.or_eq_true] at ht
  obtain ⟨hl, h⟩ := ht
  have hwl : (Lx.w16 t).length ≤ 1000000 := by rw [w16_len]; omega
  by_cases hx : isHex t = true
  · obtain ⟨b, hA⟩ := val_ad (Us.hex_ad (Hi := Hi) (Lo := Lo) (T := T) hx hl)
    have h0 : 0 < t.length := by unfold isHex at hx; rw [decide_eq_true_eq] at hx; omega
    refine (number_hex2 hwl (plain_w16 (hex_pl hx) h0) hx hA (hW.pur hp)).mono ?_
    rintro e w'' ⟨rfl, p⟩
    exact ⟨⟨_, rfl, by show _ = nv Hi Lo T t; unfold nv; rw [if_pos hx]⟩, p⟩
  · have hd := h.resolve_left hx
    obtain ⟨b, hA⟩ := val_ad (Us.dec_ad hF hd hl)
    obtain ⟨-, -, -, -, h0, -, -⟩ := dec_whole hd
    refine (number_dec hwl (plain_w16 (dec_pl hd) h0) hd hA (hW.pur hp)).mono ?_
    rintro e w'' ⟨rfl, p⟩
    exact ⟨⟨_, rfl, by show _ = nv Hi Lo T t; unfold nv; rw [if_neg hx]⟩, p⟩
/-- so every script of a right length has its lexemes, or a fault -/
theorem lexGo_ne {l : List UInt8} (hl : l.length ≤ 100000) : ∀ (f i : Nat), l.length < i + f → i ≤ l.length → Lx.lexGo CN l f i ≠ none
  | 0, i, h, hi => by omega
  | f + 1, i, h, hi => by
    rw [Lx.lexGo]
    cases hs : Lx.skip l i with
    | error k => simp
    | ok jl =>
      obtain ⟨j, ln⟩ := jl
      simp only
      have hj := Lx.skipGo_le l _ i j false ln (by unfold Lx.skip at hs; exact hs) hi
      by_cases e : j = l.length
      · rw [if_pos e]; simp
      · rw [if_neg e]
        have hjl : j < l.length := by omega
        cases ho : Lx.one CN l j ln with
        | error b =>
          cases b with
          | false => simp
          | true =>
            exfalso
            unfold Lx.one at ho
            split at ho
            · cases ho
            · split at ho
              · rename_i hd
                split at ho
                · cases ho
                · rename_i e' hn
                  have h0 : Lx.digit (by8 l j) = true ∨ (by8 l j = 46 ∧ Lx.digit (by8 l (j + 1)) = true) := by
                    rw [Bool.or_eq_true, Bool.and_eq_true, beq_iff_eq] at hd; exact hd
                  obtain ⟨n1, n2, n3⟩ := numeral_num hjl h0 hn
                  have hC : CN (sub l j e') = true := by
                    unfold CN
                    rw [Bool.and_eq_true, decide_eq_true_eq, Bool.or_eq_true]
                    exact ⟨by rw [sub_len l (by omega) n1]; omega, n3⟩
                  rw [if_pos hC] at ho
                  cases ho
              · split at ho
                · split at ho <;> cases ho
                · split at ho <;> cases ho
        | ok xk =>
          obtain ⟨x, k⟩ := xk
          simp only
          have ok := Lx.one_ok ho hjl
          have hr := lexGo_ne hl f k (by omega) ok.2.2.1
          cases hg : Lx.lexGo CN l f k with
          | none => exact absurd hg hr
          | some r => simp
theorem lex_ne {l : List UInt8} (hl : l.length ≤ 100000) : Lx.lex CN l ≠ none := lexGo_ne hl _ 0 (by omega) (Nat.zero_le _)
end Nm
end Go.Proofs.YtepmneongpbglaaGreatDoor
