/- TokRemarks: a comment and an instruction ahead of each tag change nothing but places. -/
import Derived.Test.YtaknfofppknloaaDoorTk24
namespace Go.Proofs.YtaknfofppknloaaDoor
open Go Go.RowKit
set_option linter.all false
namespace Tk
def remL : List UInt8 := [60, 33, 45, 45, 32, 60, 97, 62, 32, 45, 32, 38, 32, 45, 45, 62, 60, 63, 112, 105, 32, 60, 98, 62, 32, 63, 62]
theorem remB_eq : remB = remL := by decide
inductive RemWay (i : Bool) (b nx : Nat) (h : Prop) : Prop
  | inGt (hi : i = true) (hb : b = 62)
  | inOther (hi : i = true) (hb : b ≠ 62)
  | plain (hi : i = false) (hb : b ≠ 60)
  | open1 (hi : i = false) (hb : b = 60) (hn : h) (hx : nx = 33)
  | open2 (hi : i = false) (hb : b = 60) (hn : h) (hx : nx = 63)
  | tag1 (hi : i = false) (hb : b = 60) (hn : ¬ h)
  | tag2 (hi : i = false) (hb : b = 60) (hn : h) (hx : nx ≠ 33) (hy : nx ≠ 63)
theorem remWay (i : Bool) (b nx : Nat) (h : Prop) : RemWay i b nx h := by
  cases i with
  | true =>
    by_cases hb : b = 62
    · exact .inGt rfl hb
    · exact .inOther rfl hb
  | false =>
    by_cases hb : b = 60
    · by_cases hn : h
      · by_cases hx : nx = 33
        · exact .open1 rfl hb hn hx
        · by_cases hy : nx = 63
          · exact .open2 rfl hb hn hy
          · exact .tag2 rfl hb hn hx hy
      · exact .tag1 rfl hb hn
    · exact .plain rfl hb
/-- one step of the loop, by what the byte is -/
theorem rem_step (l : List UInt8) (n : Nat) (i : Bool) (x : List UInt8) (h : n < l.length) (H : insB false l = x ++ insB i (l.drop n)) (HC : ChkB i (l.take n) (l.drop n) → ChkB false [] l) (W : isInB i (UInt8.ofNat (by8 l n)) (l.drop (n + 1)) = true) :
    (insB false l = (x ++ [UInt8.ofNat (by8 l n)]) ++ insB (!(UInt8.ofNat (by8 l n) == 62)) (l.drop (n + 1))) ∧
    ((UInt8.ofNat (by8 l n) = 62 → ∃ ts, whole (l.take n ++ [62]) = .ok ts) → ChkB (!(UInt8.ofNat (by8 l n) == 62)) (l.take (n + 1)) (l.drop (n + 1)) → ChkB false [] l) := by
  obtain ⟨e1, e2⟩ := byte_at l n h
  have e3 : l.take (n + 1) = l.take n ++ [UInt8.ofNat (by8 l n)] := by
    rw [List.take_succ_eq_append_getElem h]
    congr 2
    simp [by8, List.getD_eq_getElem?_getD, List.getElem?_eq_getElem h]
  rw [e1] at H HC
  rw [insB, if_pos W] at H
  refine ⟨by rw [H]; simp, fun k1 k2 => HC ?_⟩
  rw [ChkB, if_pos W, ← e3]
  exact ⟨k1, k2⟩
theorem rem_step' (l : List UInt8) (n : Nat) (i : Bool) (x y : List UInt8) (h : n < l.length) (H : insB false l = x ++ insB i (l.drop n)) (HC : ChkB i (l.take n) (l.drop n) → ChkB false [] l) (W : isInB i (UInt8.ofNat (by8 l n)) (l.drop (n + 1)) = false)
    (hy : (if UInt8.ofNat (by8 l n) = 60 then remB else []) = y) :
    (insB false l = (x ++ (y ++ [UInt8.ofNat (by8 l n)])) ++ insB false (l.drop (n + 1))) ∧ (ChkB false (l.take (n + 1)) (l.drop (n + 1)) → ChkB false [] l) := by
  obtain ⟨e1, e2⟩ := byte_at l n h
  have e3 : l.take (n + 1) = l.take n ++ [UInt8.ofNat (by8 l n)] := by
    rw [List.take_succ_eq_append_getElem h]
    congr 2
    simp [by8, List.getD_eq_getElem?_getD, List.getElem?_eq_getElem h]
  rw [e1] at H HC
  rw [insB, if_neg (by rw [W]; simp), hy] at H
  refine ⟨by rw [H]; simp, fun k2 => HC ?_⟩
  rw [ChkB, if_neg (by rw [W]; simp), ← e3]
  exact k2
theorem nat_u8 {a k : Nat} (ha : a < 256) (hk : k < 256) : (UInt8.ofNat a = UInt8.ofNat k) ↔ a = k := by
  constructor
  · intro e
    have := congrArg UInt8.toNat e
    rw [UInt8.toNat_ofNat', UInt8.toNat_ofNat'] at this
    omega
  · rintro rfl; rfl
set_option maxRecDepth 100000 in
set_option maxHeartbeats 8000000 in
theorem remarks_law (l : List UInt8) (w : World) (hW : TW w) (hl : l.length ≤ 1000000000) : Calls Tryd.prog 4 #[.string ⟨l.toArray⟩] w fun e w' => e = .returned (.bool true) ∧ Pur w w' := by
  by_cases hlong : 2000 < l.length
  · have d1 : decide (2000 < (l.length : Int)) = true := by simp; omega
    clear hlong
    go_enter Tryd.func4, Tryd.ntmps4
    go_wp2_with fail
    refine (awake_any w hW).mono ?_
    rintro e w1 ⟨rfl, p1⟩
    go_wp2
    go_ret
    exact ⟨rfl, p1⟩
  · have d1 : decide (2000 < (l.length : Int)) = false := by simp; omega
    have T0 := fun w hW => tokens_told l w hW
    rcases hr : whole l with ⟨pos, n⟩ | ts
    · rw [hr] at T0
      clear hlong
      go_enter Tryd.func4, Tryd.ntmps4
      go_wp2_with fail
      refine (awake_any w hW).mono ?_
      rintro e w1 ⟨rfl, p1⟩
      go_wp2_with fail
      refine (T0 _ (hW.pur p1)).mono ?_
      rintro e w2 ⟨v, ev, rfl, p2, rfl, b, rfl, -⟩
      go_wp2
      go_ret
      exact ⟨rfl, p1.trans p2⟩
    · rw [hr] at T0
      have HWI := Lib.hid (fun hC => whole_ins hr (by omega) hC)
      clear hr
      go_enter Tryd.func4, Tryd.ntmps4
      go_wp2_with fail
      refine (awake_any w hW).mono ?_
      rintro e w1 ⟨rfl, p1⟩
      go_wp2_with fail
      refine (T0 _ (hW.pur p1)).mono ?_
      rintro e w2 ⟨v, ev, rfl, p2, rfl, hR⟩
      have hW2 := hW.pur (p1.trans p2)
      have hp2 := p1.trans p2
      obtain ⟨va, vc, rfl, -⟩ := id hR
      clear T0
      go_wp2
      go_loopw [5, 6, 7] (fun s t k wr => ∃ (n : Nat) (x : List UInt8) (i : Bool), n ≤ l.length ∧ s = .string ⟨x.toArray⟩ ∧ t = .bool i ∧ k = .int .i64 n ∧ Pur w2 wr ∧ x.length ≤ 28 * n ∧ Hid (insB false l = x ++ insB i (l.drop n)) ∧ Hid (ChkB i (l.take n) (l.drop n) → ChkB false [] l)) (fun _ _ k _ => l.length + 1 - (intOf k).toNat)
      case atStart => exact ⟨0, [], false, by omega, rfl, rfl, rfl, Pur.refl w2, by simp, Lib.hid rfl, Lib.hid id⟩
      case round =>
        obtain ⟨n, x, i, hn, rfl, rfl, rfl, hpr, hx, H1, H2⟩ := hrel
        by_cases hlt : n < l.length
        · have hlt' : (n : Int) < l.length := by omega
          have wn : IntKind.i64.wrap ((n : Int) + 1) = (n : Int) + 1 := IntWalk.i64_in _ (by omega)
          have i1 : ((n : Int)).toNat = n := by omega
          have i2 : ((n : Int) + 1).toNat = n + 1 := by omega
          have hb8 := by8_lt l n
          have hsub := (byte_at l n hlt).2
          have hy8 : by8 (l.drop (n + 1)) 0 = by8 l (n + 1) := by rw [by8_drop]
          have z1 : ¬ 9223372036854775807 < x.length + 1 := by omega
          have z2 : ¬ 9223372036854775807 < x.length + 27 := by omega
          have z3 : ¬ 9223372036854775807 < x.length + 27 + 1 := by omega
          have e60 : (UInt8.ofNat (by8 l n) == 60) = (by8 l n == 60) := by rw [Bool.eq_iff_iff, beq_iff_eq, beq_iff_eq]; exact nat_u8 (k := 60) hb8 (by decide)
          have e62 : (UInt8.ofNat (by8 l n) == 62) = (by8 l n == 62) := by rw [Bool.eq_iff_iff, beq_iff_eq, beq_iff_eq]; exact nat_u8 (k := 62) hb8 (by decide)
          have hin : isInB i (UInt8.ofNat (by8 l n)) (l.drop (n + 1)) = (i || (by8 l n == 60 && (by8 l (n + 1) == 33 || by8 l (n + 1) == 63))) := by unfold isInB; rw [e60, hy8]
          have S1 := rem_step l n i x hlt H1.out H2.out
          have S2 := fun y => rem_step' l n i x y hlt H1.out H2.out
          rw [hin] at S1 S2
          have hsb : sub l 0 (n + 1) = l.take (n + 1) := by simp [sub]
          have e3 : l.take (n + 1) = l.take n ++ [UInt8.ofNat (by8 l n)] := by
            rw [List.take_succ_eq_append_getElem hlt]
            congr 2
            simp [by8, List.getD_eq_getElem?_getD, List.getElem?_eq_getElem hlt]
          have hWY := remWay i (by8 l n) (by8 l (n + 1)) (n + 1 < l.length)
          have n60 := nat_u8 (k := 60) hb8 (by decide)
          have n62 := nat_u8 (k := 62) hb8 (by decide)
          have hge := by8_ge l (n + 1)
          clear H1 H2 hin hy8
          rcases hWY with ⟨rfl, hb⟩ | ⟨rfl, hb⟩ | ⟨rfl, hb⟩ | ⟨rfl, hb, hnx, hx1⟩ | ⟨rfl, hb, hnx, hx1⟩ | ⟨rfl, hb, hnx⟩ | ⟨rfl, hb, hnx, hx1, hx2⟩
          · -- the end of what was within
            obtain ⟨A1, A2⟩ := S1 rfl
            rw [e62, hb] at A1 A2
            have A1 := Lib.hid A1
            have hk : UInt8.ofNat 62 = 62 := rfl
            rw [hb] at e3 hsub
            have TT := fun w hW => tokens_told (sub l 0 (n + 1)) w hW
            have hwt : whole (sub l 0 (n + 1)) = whole (l.take n ++ [62]) := by rw [hsb, e3]; rfl
            have A2 := Lib.hid A2
            generalize whole (sub l 0 (n + 1)) = r at TT hwt
            have hwt := Lib.hid hwt
            have hb' : (by8 l n : Int) = 62 := by omega
            clear S1 S2 e60 e62 n60 n62 hge hsb e3 hb hb8
            go_wp2_with fail
            refine (TT _ (hW2.pur hpr)).mono ?_
            rintro e w3 ⟨v3, ev3, rfl, p3, h3⟩
            rcases r with ⟨pos, m⟩ | us
            · obtain ⟨rfl, b, rfl, -⟩ := h3
              go_wp2
              go_ret
              exact ⟨rfl, hp2.trans (hpr.trans p3)⟩
            · obtain ⟨rfl, -⟩ := h3
              have B2 := Lib.hid (A2.out (fun _ => ⟨us, hwt.out.symm⟩))
              clear A2
              go_wp2
              go_roundw
              case rel => exact ⟨n + 1, x ++ [62], false, by omega, rfl, rfl, by go_num, hpr.trans p3, by simp; omega, A1, B2⟩
              case measure => simp [intOf]; omega
          · obtain ⟨A1, A2⟩ := S1 rfl
            have h62 : (by8 l n == 62) = false := by rw [beq_eq_false_iff_ne]; exact hb
            rw [e62, h62] at A1 A2
            have A1 := Lib.hid A1
            have A2 := Lib.hid (A2 fun e => absurd (n62.1 e) hb)
            have d62 : ((by8 l n : Int) == 62) = false := by rw [beq_eq_false_iff_ne]; omega
            clear S1 S2 e60 e62 n60 n62 hge hsb e3 h62 hb hb8
            go_wp2
            go_roundw
            case rel => exact ⟨n + 1, x ++ [UInt8.ofNat (by8 l n)], true, by omega, rfl, rfl, by go_num, hpr, by simp [remL]; omega, A1, A2⟩
            case measure => simp [intOf]; omega
          · have h60 : (by8 l n == 60) = false := by rw [beq_eq_false_iff_ne]; exact hb
            obtain ⟨A1, A2⟩ := S2 [] (by rw [h60]; rfl) (if_neg fun e => hb (n60.1 e))
            have A1 := Lib.hid A1
            have A2 := Lib.hid A2
            have d60 : ((by8 l n : Int) == 60) = false := by rw [beq_eq_false_iff_ne]; omega
            clear S1 S2 e60 e62 n60 n62 hge hsb e3 h60 hb hb8
            go_wp2
            go_roundw
            case rel => exact ⟨n + 1, x ++ [UInt8.ofNat (by8 l n)], false, by omega, rfl, rfl, by go_num, hpr, by simp [remL]; omega, A1, A2⟩
            case measure => simp [intOf]; omega
          · obtain ⟨A1, A2⟩ := S1 (by rw [hb, hx1]; rfl)
            rw [e62, hb] at A1 A2
            have A1 := Lib.hid A1
            have A2 := Lib.hid (A2 fun e => absurd e (by decide))
            have hb' : (by8 l n : Int) = 60 := by omega
            have hx' : (by8 l (n + 1) : Int) = 33 := by omega
            have hnx' : (n : Int) + 1 < l.length := by omega
            rw [hb] at hsub
            clear S1 S2 e60 e62 n60 n62 hge hsb e3 hb hb8 hx1
            go_wp2
            go_roundw
            case rel => exact ⟨n + 1, x ++ [60], true, by omega, rfl, rfl, by go_num, hpr, by simp [remL]; omega, A1, A2⟩
            case measure => simp [intOf]; omega
          · obtain ⟨A1, A2⟩ := S1 (by rw [hb, hx1]; rfl)
            rw [e62, hb] at A1 A2
            have A1 := Lib.hid A1
            have A2 := Lib.hid (A2 fun e => absurd e (by decide))
            have hb' : (by8 l n : Int) = 60 := by omega
            have hx' : (by8 l (n + 1) : Int) = 63 := by omega
            have hnx' : (n : Int) + 1 < l.length := by omega
            rw [hb] at hsub
            clear S1 S2 e60 e62 n60 n62 hge hsb e3 hb hb8 hx1
            go_wp2
            go_roundw
            case rel => exact ⟨n + 1, x ++ [60], true, by omega, rfl, rfl, by go_num, hpr, by simp [remL]; omega, A1, A2⟩
            case measure => simp [intOf]; omega
          · have hx0 := hge (by omega)
            obtain ⟨A1, A2⟩ := S2 remB (by rw [hx0]; simp) (if_pos (n60.2 hb))
            rw [hb, remB_eq] at A1
            have A1 := Lib.hid A1
            have A2 := Lib.hid A2
            have hb' : (by8 l n : Int) = 60 := by omega
            rw [hb] at hsub
            have hnx' : ¬ (n : Int) + 1 < l.length := by omega
            clear S1 S2 e60 e62 n60 n62 hge hsb e3 hb hb8 hx0
            go_wp2
            go_roundw
            case rel => exact ⟨n + 1, x ++ (remL ++ [60]), false, by omega, rfl, rfl, by go_num, hpr, by simp [remL]; omega, A1, A2⟩
            case measure => simp [intOf]; omega
          · have h33 : (by8 l (n + 1) == 33) = false := by rw [beq_eq_false_iff_ne]; exact hx1
            have h63 : (by8 l (n + 1) == 63) = false := by rw [beq_eq_false_iff_ne]; exact hx2
            obtain ⟨A1, A2⟩ := S2 remB (by rw [h33, h63]; simp) (if_pos (n60.2 hb))
            rw [hb, remB_eq] at A1
            have A1 := Lib.hid A1
            have A2 := Lib.hid A2
            have hb' : (by8 l n : Int) = 60 := by omega
            rw [hb] at hsub
            have hnx' : (n : Int) + 1 < l.length := by omega
            have d33 : ((by8 l (n + 1) : Int) == 33) = false := by rw [beq_eq_false_iff_ne]; omega
            have d63 : ((by8 l (n + 1) : Int) == 63) = false := by rw [beq_eq_false_iff_ne]; omega
            clear S1 S2 e60 e62 n60 n62 hge hsb e3 hb hb8 hx1 hx2 h33 h63
            go_wp2
            go_roundw
            case rel => exact ⟨n + 1, x ++ (remL ++ [60]), false, by omega, rfl, rfl, by go_num, hpr, by simp [remL]; omega, A1, A2⟩
            case measure => simp [intOf]; omega
        · obtain rfl : n = l.length := by omega
          have hlt' : ¬ (l.length : Int) < l.length := by omega
          have E1 : insB false l = x := by
            have := H1.out
            rw [List.drop_length] at this
            rw [this]; cases i <;> simp [insB]
          have E2 : ChkB false [] l := H2.out (by rw [List.drop_length]; cases i <;> trivial)
          obtain ⟨us, hwu, hbu⟩ := HWI.out E2
          rw [E1] at hwu
          have TX := fun w hW => tokens_told x w hW
          rw [hwu] at TX
          have hbu := Lib.hid hbu
          clear H1 H2 E1 E2 hwu HWI hlong
          go_wp2_with fail
          refine (TX _ (hW2.pur hpr)).mono ?_
          rintro e w3 ⟨v3, ev3, rfl, p3, rfl, hU⟩
          obtain ⟨ua, uc, rfl, -⟩ := id hU
          clear TX
          go_wp2_with fail
          refine (same_any _ _ _ _ _ false (hR.pur (hpr.trans p3)) hU hbu.out.symm (fun h => by cases h)).mono ?_
          rintro e w4 ⟨rfl, p4⟩
          go_wp2
          go_ret
          exact ⟨rfl, hp2.trans (hpr.trans (p3.trans p4))⟩
end Tk
end Go.Proofs.YtaknfofppknloaaDoor
