/- Layer 2, the document's answer: a reference's digits; a character's bytes. -/
import Derived.Test.YtaknfofppknloaaGreatDoorTr3
import Derived.Test.YtaknfofppknloaaGreatDoorTv
import Derived.Test.YtaknfofppknloaaGreatDoorUtfPure4
namespace Go.Proofs.YtaknfofppknloaaGreatDoor
open Go Go.RowKit
set_option linter.all false
namespace Tk
def numBGo (base : Nat) : Nat → List UInt8 → Option Nat
  | v, [] => some v
  | v, b :: r => if dig b.toNat < base then numBGo base (min (v * base + dig b.toNat) 1114112) r else none
def numFin (base : Nat) (ds : List UInt8) : Option Nat := if ds = [] then none else (numBGo base 0 ds).bind fun v => if allowed v || v == 13 then some v else none
def numB (D : List UInt8) : Option Nat := if by8 D 0 = 120 then numFin 16 (D.drop 1) else numFin 10 D
/-- -1: none -/
def optI (o : Option Nat) : Int := match o with | some v => (v : Int) | none => -1
theorem numBGo_le (base : Nat) : ∀ (ds : List UInt8) (v u : Nat), v ≤ 1114112 → numBGo base v ds = some u → u ≤ 1114112
  | [], v, u, h, e => by rw [numBGo] at e; cases e; exact h
  | b :: r, v, u, h, e => by
    rw [numBGo] at e
    split at e
    · exact numBGo_le base r _ u (by omega) e
    · cases e
theorem numBGo_step (base : Nat) (D : List UInt8) (n v : Nat) (h : n < D.length) : numBGo base v (D.drop n) = if dig (by8 D n) < base then numBGo base (min (v * base + dig (by8 D n)) 1114112) (D.drop (n + 1)) else none := by
  have e : D.drop n = UInt8.ofNat (by8 D n) :: D.drop (n + 1) := by
    rw [List.drop_eq_getElem_cons h]
    congr 1
    simp [by8, List.getD_eq_getElem?_getD, List.getElem?_eq_getElem h]
  rw [e, numBGo]
  have hb := by8_lt D n
  have : (UInt8.ofNat (by8 D n)).toNat = by8 D n := by rw [UInt8.toNat_ofNat']; omega
  rw [this]
theorem numFin_some {base : Nat} {ds : List UInt8} {v : Nat} (h : ds ≠ []) (hv : numBGo base 0 ds = some v) (ha : allowed v = true ∨ v = 13) : optI (numFin base ds) = (v : Int) := by
  unfold numFin
  rw [if_neg h, hv, Option.bind_some, if_pos (by simpa using ha)]
  rfl
theorem numFin_no {base : Nat} {ds : List UInt8} {v : Nat} (h : ds ≠ []) (hv : numBGo base 0 ds = some v) (ha : allowed v = false) (h13 : v ≠ 13) : optI (numFin base ds) = -1 := by
  unfold numFin
  rw [if_neg h, hv, Option.bind_some, if_neg (by simp [ha, h13])]
  rfl
theorem numFin_none {base : Nat} {ds : List UInt8} (h : ds ≠ []) (hv : numBGo base 0 ds = none) : optI (numFin base ds) = -1 := by
  unfold numFin
  rw [if_neg h, hv]
  rfl
/-- which digit is it? -/
inductive DigWay (b : Nat) : Prop
  | dec (h : 48 ≤ b) (h2 : b ≤ 57)
  | low (h : 97 ≤ b) (h2 : b ≤ 102)
  | up (h : 65 ≤ b) (h2 : b ≤ 70)
  | n1 (h : b < 48)
  | n2 (h : 58 ≤ b) (h2 : b < 65)
  | n3 (h : 71 ≤ b) (h2 : b < 97)
  | n4 (h : 103 ≤ b)
theorem digWay (b : Nat) : DigWay b := by
  by_cases h1 : b < 48
  · exact .n1 h1
  by_cases h2 : b ≤ 57
  · exact .dec (by omega) h2
  by_cases h3 : b < 65
  · exact .n2 (by omega) h3
  by_cases h4 : b ≤ 70
  · exact .up (by omega) h4
  by_cases h5 : b < 97
  · exact .n3 (by omega) h5
  by_cases h6 : b ≤ 102
  · exact .low (by omega) h6
  · exact .n4 (by omega)
set_option maxRecDepth 100000 in
set_option maxHeartbeats 20000000 in
theorem rallowed_any (c : Int) (w : World) (h : 0 ≤ c) : Calls Tryz.prog 35 #[.int .i64 c] w fun e w' => e = .returned (.bool (on allowed c)) ∧ w = w' := by
  have hb : on allowed c = ((decide (c < 32) && ((c == 9) || (c == 10))) || (!decide (c < 32) && (decide (c ≤ 55295) || ((decide (57344 ≤ c) && decide (c ≤ 65533)) || (decide (65536 ≤ c) && decide (c ≤ 1114111)))))) := by
    rw [Bool.eq_iff_iff]
    simp only [on, allowed, Bool.and_eq_true, Bool.or_eq_true, decide_eq_true_eq, beq_iff_eq, Bool.not_eq_true', decide_eq_false_iff_not]
    omega
  rw [hb]
  clear hb h
  rcases d1 : decide (c < 32) with _ | _
  · rcases d4 : decide (c ≤ 55295) with _ | _ <;> rcases d5 : decide (57344 ≤ c) with _ | _ <;> rcases d6 : decide (c ≤ 65533) with _ | _ <;> rcases d7 : decide (65536 ≤ c) with _ | _ <;> rcases d8 : decide (c ≤ 1114111) with _ | _
    all_goals
      go_enter Tryz.func35, Tryz.ntmps35
      go_wp2
      go_ret
      exact ⟨rfl, rfl⟩
  · rcases d2 : (c == 9) with _ | _ <;> rcases d3 : (c == 10) with _ | _
    all_goals
      go_enter Tryz.func35, Tryz.ntmps35
      go_wp2
      go_ret
      exact ⟨rfl, rfl⟩
set_option maxRecDepth 100000 in
set_option maxHeartbeats 8000000 in
theorem numbered_x (D E : List UInt8) (w : World) (hE : Hid (D.drop 1 = E)) (hl : D.length ≤ 1000000) (h0 : 0 < D.length) (hx : by8 D 0 = 120) : Calls Tryz.prog 63 #[.string ⟨D.toArray⟩] w fun e w' => e = .returned (.int .i64 (optI (numFin 16 E))) ∧ w = w' := by
  by_cases hd : D.length = 1
  · have hnil : E = [] := by rw [← hE.out, List.drop_eq_nil_iff]; omega
    subst hnil
    have hd' : (D.length : Int) = 1 := by omega
    have hx' : (by8 D 0 : Int) = 120 := by omega
    clear hx hE
    go_enter Tryz.func63, Tryz.ntmps63
    go_wp2
    refine wp_loop_rounds 1 ?_
    rw [rounds_succ]
    go_wp2
    go_ret
    exact ⟨rfl, rfl⟩
  · have hne := Lib.hid (show ¬ E = [] from fun h => by rw [← hE.out, List.drop_eq_nil_iff] at h; omega)
    have hne0 := Lib.hid (show ¬ D.length = 1 from hd)
    have hx' : (by8 D 0 : Int) = 120 := by omega
    clear hx hd
    go_enter Tryz.func63, Tryz.ntmps63
    go_wp2
    go_loopw [5, 6] (fun s k wr => ∃ n v : Nat, 1 ≤ n ∧ n ≤ D.length ∧ s = .int .i64 (v : Int) ∧ k = .int .i64 (n : Int) ∧ wr = w ∧ v ≤ 1114112 ∧ Hid (numBGo 16 0 E = numBGo 16 v (D.drop n))) (fun _ k _ => D.length + 1 - (intOf k).toNat)
    case atStart => exact ⟨1, 0, by omega, by omega, rfl, rfl, rfl, by omega, Lib.hid (by rw [hE.out])⟩
    case round =>
      obtain ⟨n, v, hn0, hn, rfl, rfl, rfl, hv, H⟩ := hrel
      by_cases hlt : n < D.length
      · have hlt' : (n : Int) < D.length := by omega
        have wn : IntKind.i64.wrap ((n : Int) + 1) = (n : Int) + 1 := IntWalk.i64_in _ (by omega)
        have hb8 := by8_lt D n
        have hst := numBGo_step 16 D n v hlt
        rw [← H.out] at hst
        rcases digWay (by8 D n) with ⟨h1, h2⟩ | ⟨h1, h2⟩ | ⟨h1, h2⟩ | h1 | ⟨h1, h2⟩ | ⟨h1, h2⟩ | h1
        · have dg : dig (by8 D n) = by8 D n - 48 := by unfold dig; rw [if_pos ⟨h1, h2⟩]
          rw [dg] at hst
          obtain ⟨x, hx⟩ : ∃ x, x = by8 D n - 48 := ⟨_, rfl⟩
          rw [← hx] at hst
          have hx16 : x < 16 := by omega
          have f1 : 48 ≤ by8 D n := h1
          have f2 : by8 D n ≤ 57 := h2
          have e1 : IntKind.u8.wrap ((by8 D n : Int) - 48) = (x : Int) := by rw [IntWalk.u8_in _ (by omega)]; omega
          by_cases hxb : x < 16
          · rw [if_pos hxb] at hst
            have g1 : ¬ 16 ≤ x := by omega
            have m1 : IntKind.i64.wrap ((v : Int) * 16) = ((v * 16 : Nat) : Int) := by rw [IntWalk.i64_in _ (by omega)]; omega
            have m2 : IntKind.i64.wrap (((v * 16 : Nat) : Int) + (x : Int)) = ((v * 16 + x : Nat) : Int) := by rw [IntWalk.i64_in _ (by omega)]; omega
            have m3 : min ((v * 16 + x : Nat) : Int) 1114112 = ((min (v * 16 + x) 1114112 : Nat) : Int) := by omega
            have hst := Lib.hid hst
            obtain ⟨y, hy⟩ : ∃ y, y = min (v * 16 + x) 1114112 := ⟨_, rfl⟩
            have hy2 : y ≤ 1114112 := by omega
            rw [← hy] at m3 hst
            clear dg hx H hy
            go_wp2
            go_roundw
            case rel => exact ⟨n + 1, y, by omega, by omega, by go_num, by go_num, trivial, hy2, hst⟩
            case measure => simp [intOf]; omega
          · exact absurd (by omega) hxb
        · have dg : dig (by8 D n) = by8 D n - 87 := by unfold dig; rw [if_neg (by omega), if_pos ⟨h1, h2⟩]
          rw [dg] at hst
          obtain ⟨x, hx⟩ : ∃ x, x = by8 D n - 87 := ⟨_, rfl⟩
          rw [← hx] at hst
          have hx16 : x < 16 := by omega
          have f1 : 48 ≤ by8 D n := by omega
          have f2 : ¬ by8 D n ≤ 57 := by omega
          have f3 : 97 ≤ by8 D n := h1
          have f4 : by8 D n ≤ 102 := h2
          have e1 : IntKind.u8.wrap ((by8 D n : Int) - 97) = ((x - 10 : Nat) : Int) := by rw [IntWalk.u8_in _ (by omega)]; omega
          have e2 : IntKind.i64.wrap (((x - 10 : Nat) : Int) + 10) = (x : Int) := by rw [IntWalk.i64_in _ (by omega)]; omega
          by_cases hxb : x < 16
          · rw [if_pos hxb] at hst
            have g1 : ¬ 16 ≤ x := by omega
            have m1 : IntKind.i64.wrap ((v : Int) * 16) = ((v * 16 : Nat) : Int) := by rw [IntWalk.i64_in _ (by omega)]; omega
            have m2 : IntKind.i64.wrap (((v * 16 : Nat) : Int) + (x : Int)) = ((v * 16 + x : Nat) : Int) := by rw [IntWalk.i64_in _ (by omega)]; omega
            have m3 : min ((v * 16 + x : Nat) : Int) 1114112 = ((min (v * 16 + x) 1114112 : Nat) : Int) := by omega
            have hst := Lib.hid hst
            obtain ⟨y, hy⟩ : ∃ y, y = min (v * 16 + x) 1114112 := ⟨_, rfl⟩
            have hy2 : y ≤ 1114112 := by omega
            rw [← hy] at m3 hst
            clear dg hx H hy
            go_wp2
            go_roundw
            case rel => exact ⟨n + 1, y, by omega, by omega, by go_num, by go_num, trivial, hy2, hst⟩
            case measure => simp [intOf]; omega
          · exact absurd (by omega) hxb
        · have dg : dig (by8 D n) = by8 D n - 55 := by unfold dig; rw [if_neg (by omega), if_neg (by omega), if_pos ⟨h1, h2⟩]
          rw [dg] at hst
          obtain ⟨x, hx⟩ : ∃ x, x = by8 D n - 55 := ⟨_, rfl⟩
          rw [← hx] at hst
          have hx16 : x < 16 := by omega
          have f1 : 48 ≤ by8 D n := by omega
          have f2 : ¬ by8 D n ≤ 57 := by omega
          have f3 : ¬ 97 ≤ by8 D n := by omega
          have f5 : 65 ≤ by8 D n := h1
          have f6 : by8 D n ≤ 70 := h2
          have e1 : IntKind.u8.wrap ((by8 D n : Int) - 65) = ((x - 10 : Nat) : Int) := by rw [IntWalk.u8_in _ (by omega)]; omega
          have e2 : IntKind.i64.wrap (((x - 10 : Nat) : Int) + 10) = (x : Int) := by rw [IntWalk.i64_in _ (by omega)]; omega
          by_cases hxb : x < 16
          · rw [if_pos hxb] at hst
            have g1 : ¬ 16 ≤ x := by omega
            have m1 : IntKind.i64.wrap ((v : Int) * 16) = ((v * 16 : Nat) : Int) := by rw [IntWalk.i64_in _ (by omega)]; omega
            have m2 : IntKind.i64.wrap (((v * 16 : Nat) : Int) + (x : Int)) = ((v * 16 + x : Nat) : Int) := by rw [IntWalk.i64_in _ (by omega)]; omega
            have m3 : min ((v * 16 + x : Nat) : Int) 1114112 = ((min (v * 16 + x) 1114112 : Nat) : Int) := by omega
            have hst := Lib.hid hst
            obtain ⟨y, hy⟩ : ∃ y, y = min (v * 16 + x) 1114112 := ⟨_, rfl⟩
            have hy2 : y ≤ 1114112 := by omega
            rw [← hy] at m3 hst
            clear dg hx H hy
            go_wp2
            go_roundw
            case rel => exact ⟨n + 1, y, by omega, by omega, by go_num, by go_num, trivial, hy2, hst⟩
            case measure => simp [intOf]; omega
          · exact absurd (by omega) hxb
        · have dg : dig (by8 D n) = 99 := by unfold dig; rw [if_neg (by omega), if_neg (by omega), if_neg (by omega)]
          rw [dg] at hst
          have f1 : ¬ 48 ≤ by8 D n := by omega
          have f3 : ¬ 97 ≤ by8 D n := by omega
          have f5 : ¬ 65 ≤ by8 D n := by omega
          rw [if_neg (show ¬ 99 < 16 by omega)] at hst
          have hst := Lib.hid hst
          have hres := Lib.hid (show optI (numFin 16 E) = -1 from numFin_none hne.out hst.out)
          clear dg H
          go_wp2
          go_ret
          exact ⟨congrArg (fun z => Ending.returned (.int .i64 z)) hres.out.symm, rfl⟩
        · have dg : dig (by8 D n) = 99 := by unfold dig; rw [if_neg (by omega), if_neg (by omega), if_neg (by omega)]
          rw [dg] at hst
          have f1 : 48 ≤ by8 D n := by omega
          have f2 : ¬ by8 D n ≤ 57 := by omega
          have f3 : ¬ 97 ≤ by8 D n := by omega
          have f5 : ¬ 65 ≤ by8 D n := by omega
          rw [if_neg (show ¬ 99 < 16 by omega)] at hst
          have hst := Lib.hid hst
          have hres := Lib.hid (show optI (numFin 16 E) = -1 from numFin_none hne.out hst.out)
          clear dg H
          go_wp2
          go_ret
          exact ⟨congrArg (fun z => Ending.returned (.int .i64 z)) hres.out.symm, rfl⟩
        · have dg : dig (by8 D n) = 99 := by unfold dig; rw [if_neg (by omega), if_neg (by omega), if_neg (by omega)]
          rw [dg] at hst
          have f1 : 48 ≤ by8 D n := by omega
          have f2 : ¬ by8 D n ≤ 57 := by omega
          have f3 : ¬ 97 ≤ by8 D n := by omega
          have f5 : 65 ≤ by8 D n := by omega
          have f6 : ¬ by8 D n ≤ 70 := by omega
          rw [if_neg (show ¬ 99 < 16 by omega)] at hst
          have hst := Lib.hid hst
          have hres := Lib.hid (show optI (numFin 16 E) = -1 from numFin_none hne.out hst.out)
          clear dg H
          go_wp2
          go_ret
          exact ⟨congrArg (fun z => Ending.returned (.int .i64 z)) hres.out.symm, rfl⟩
        · have dg : dig (by8 D n) = 99 := by unfold dig; rw [if_neg (by omega), if_neg (by omega), if_neg (by omega)]
          rw [dg] at hst
          have f1 : 48 ≤ by8 D n := by omega
          have f2 : ¬ by8 D n ≤ 57 := by omega
          have f3 : 97 ≤ by8 D n := by omega
          have f4 : ¬ by8 D n ≤ 102 := by omega
          have f5 : 65 ≤ by8 D n := by omega
          have f6 : ¬ by8 D n ≤ 70 := by omega
          rw [if_neg (show ¬ 99 < 16 by omega)] at hst
          have hst := Lib.hid hst
          have hres := Lib.hid (show optI (numFin 16 E) = -1 from numFin_none hne.out hst.out)
          clear dg H
          go_wp2
          go_ret
          exact ⟨congrArg (fun z => Ending.returned (.int .i64 z)) hres.out.symm, rfl⟩
      · obtain rfl : n = D.length := by omega
        have hlt' : ¬ ((D.length : Int) < D.length) := by omega
        have hst := H.out
        rw [List.drop_length, numBGo] at hst
        have hst := Lib.hid hst
        have RA := rallowed_any (v : Int) wr (by omega)
        have hon : on allowed (v : Int) = allowed v := by simp [on]
        rw [hon] at RA
        have hne0 := hne0.out
        have hlen : ¬ D.length = 1 := by omega
        have hle2 : ¬ (D.length : Int) = 1 := by omega
        clear H
        rcases ha : allowed v with _ | _
        · rw [ha] at RA
          by_cases h13 : v = 13
          · have d13 : ((v : Int) != 13) = false := by simp; omega
            have hres := Lib.hid (show optI (numFin 16 E) = (v : Int) from numFin_some hne.out hst.out (.inr h13))
            clear h13
            go_wp2_with fail
            refine RA.mono ?_
            rintro e w1 ⟨rfl, rfl⟩
            go_wp2
            go_ret
            exact ⟨congrArg (fun z => Ending.returned (.int .i64 z)) hres.out.symm, rfl⟩
          · have d13 : ((v : Int) != 13) = true := by simp; omega
            have hres := Lib.hid (show optI (numFin 16 E) = -1 from numFin_no hne.out hst.out ha h13)
            clear h13
            go_wp2_with fail
            refine RA.mono ?_
            rintro e w1 ⟨rfl, rfl⟩
            go_wp2
            go_ret
            exact ⟨congrArg (fun z => Ending.returned (.int .i64 z)) hres.out.symm, rfl⟩
        · rw [ha] at RA
          have hres := Lib.hid (show optI (numFin 16 E) = (v : Int) from numFin_some hne.out hst.out (.inl ha))
          go_wp2_with fail
          refine RA.mono ?_
          rintro e w1 ⟨rfl, rfl⟩
          go_wp2
          go_ret
          exact ⟨congrArg (fun z => Ending.returned (.int .i64 z)) hres.out.symm, rfl⟩

set_option maxRecDepth 100000 in
set_option maxHeartbeats 8000000 in
theorem numbered_d (D E : List UInt8) (w : World) (hE : Hid (D.drop 0 = E)) (hl : D.length ≤ 1000000) (hx : by8 D 0 ≠ 120) : Calls Tryz.prog 63 #[.string ⟨D.toArray⟩] w fun e w' => e = .returned (.int .i64 (optI (numFin 10 E))) ∧ w = w' := by
  by_cases hd : D.length = 0
  · obtain rfl : D = [] := List.length_eq_zero_iff.1 hd
    obtain rfl : E = [] := hE.out.symm
    clear hx hd hl hE
    go_enter Tryz.func63, Tryz.ntmps63
    go_wp2
    refine wp_loop_rounds 1 ?_
    rw [rounds_succ]
    go_wp2
    go_ret
    exact ⟨rfl, rfl⟩
  · have hne := Lib.hid (show ¬ E = [] from fun h => by rw [← hE.out, List.drop_eq_nil_iff] at h; omega)
    have hne0 := Lib.hid (show ¬ D.length = 0 from hd)
    have h0 : 0 < D.length := by omega
    have hx' : ((by8 D 0 : Int) == 120) = false := by rw [beq_eq_false_iff_ne]; omega
    clear hx hd
    go_enter Tryz.func63, Tryz.ntmps63
    go_wp2
    go_loopw [5, 6] (fun s k wr => ∃ n v : Nat, 0 ≤ n ∧ n ≤ D.length ∧ s = .int .i64 (v : Int) ∧ k = .int .i64 (n : Int) ∧ wr = w ∧ v ≤ 1114112 ∧ Hid (numBGo 10 0 E = numBGo 10 v (D.drop n))) (fun _ k _ => D.length + 1 - (intOf k).toNat)
    case atStart => exact ⟨0, 0, by omega, by omega, rfl, rfl, rfl, by omega, Lib.hid (by rw [hE.out])⟩
    case round =>
      obtain ⟨n, v, hn0, hn, rfl, rfl, rfl, hv, H⟩ := hrel
      by_cases hlt : n < D.length
      · have hlt' : (n : Int) < D.length := by omega
        have wn : IntKind.i64.wrap ((n : Int) + 1) = (n : Int) + 1 := IntWalk.i64_in _ (by omega)
        have hb8 := by8_lt D n
        have hst := numBGo_step 10 D n v hlt
        rw [← H.out] at hst
        rcases digWay (by8 D n) with ⟨h1, h2⟩ | ⟨h1, h2⟩ | ⟨h1, h2⟩ | h1 | ⟨h1, h2⟩ | ⟨h1, h2⟩ | h1
        · have dg : dig (by8 D n) = by8 D n - 48 := by unfold dig; rw [if_pos ⟨h1, h2⟩]
          rw [dg] at hst
          obtain ⟨x, hx⟩ : ∃ x, x = by8 D n - 48 := ⟨_, rfl⟩
          rw [← hx] at hst
          have hx16 : x < 16 := by omega
          have f1 : 48 ≤ by8 D n := h1
          have f2 : by8 D n ≤ 57 := h2
          have e1 : IntKind.u8.wrap ((by8 D n : Int) - 48) = (x : Int) := by rw [IntWalk.u8_in _ (by omega)]; omega
          by_cases hxb : x < 10
          · rw [if_pos hxb] at hst
            have g1 : ¬ 10 ≤ x := by omega
            have m1 : IntKind.i64.wrap ((v : Int) * 10) = ((v * 10 : Nat) : Int) := by rw [IntWalk.i64_in _ (by omega)]; omega
            have m2 : IntKind.i64.wrap (((v * 10 : Nat) : Int) + (x : Int)) = ((v * 10 + x : Nat) : Int) := by rw [IntWalk.i64_in _ (by omega)]; omega
            have m3 : min ((v * 10 + x : Nat) : Int) 1114112 = ((min (v * 10 + x) 1114112 : Nat) : Int) := by omega
            have hst := Lib.hid hst
            obtain ⟨y, hy⟩ : ∃ y, y = min (v * 10 + x) 1114112 := ⟨_, rfl⟩
            have hy2 : y ≤ 1114112 := by omega
            rw [← hy] at m3 hst
            clear dg hx H hy
            go_wp2
            go_roundw
            case rel => exact ⟨n + 1, y, by omega, by omega, by go_num, by go_num, trivial, hy2, hst⟩
            case measure => simp [intOf]; omega
          · exact absurd (by omega) hxb
        · have dg : dig (by8 D n) = by8 D n - 87 := by unfold dig; rw [if_neg (by omega), if_pos ⟨h1, h2⟩]
          rw [dg] at hst
          obtain ⟨x, hx⟩ : ∃ x, x = by8 D n - 87 := ⟨_, rfl⟩
          rw [← hx] at hst
          have hx16 : x < 16 := by omega
          have f1 : 48 ≤ by8 D n := by omega
          have f2 : ¬ by8 D n ≤ 57 := by omega
          have f3 : 97 ≤ by8 D n := h1
          have f4 : by8 D n ≤ 102 := h2
          have e1 : IntKind.u8.wrap ((by8 D n : Int) - 97) = ((x - 10 : Nat) : Int) := by rw [IntWalk.u8_in _ (by omega)]; omega
          have e2 : IntKind.i64.wrap (((x - 10 : Nat) : Int) + 10) = (x : Int) := by rw [IntWalk.i64_in _ (by omega)]; omega
          by_cases hxb : x < 10
          · exact absurd hxb (by omega)
          · rw [if_neg hxb] at hst
            have g1 : 10 ≤ x := by omega
            have hst := Lib.hid hst
            have hres := Lib.hid (show optI (numFin 10 E) = -1 from numFin_none hne.out hst.out)
            clear dg hx H
            go_wp2
            go_ret
            exact ⟨congrArg (fun z => Ending.returned (.int .i64 z)) hres.out.symm, rfl⟩
        · have dg : dig (by8 D n) = by8 D n - 55 := by unfold dig; rw [if_neg (by omega), if_neg (by omega), if_pos ⟨h1, h2⟩]
          rw [dg] at hst
          obtain ⟨x, hx⟩ : ∃ x, x = by8 D n - 55 := ⟨_, rfl⟩
          rw [← hx] at hst
          have hx16 : x < 16 := by omega
          have f1 : 48 ≤ by8 D n := by omega
          have f2 : ¬ by8 D n ≤ 57 := by omega
          have f3 : ¬ 97 ≤ by8 D n := by omega
          have f5 : 65 ≤ by8 D n := h1
          have f6 : by8 D n ≤ 70 := h2
          have e1 : IntKind.u8.wrap ((by8 D n : Int) - 65) = ((x - 10 : Nat) : Int) := by rw [IntWalk.u8_in _ (by omega)]; omega
          have e2 : IntKind.i64.wrap (((x - 10 : Nat) : Int) + 10) = (x : Int) := by rw [IntWalk.i64_in _ (by omega)]; omega
          by_cases hxb : x < 10
          · exact absurd hxb (by omega)
          · rw [if_neg hxb] at hst
            have g1 : 10 ≤ x := by omega
            have hst := Lib.hid hst
            have hres := Lib.hid (show optI (numFin 10 E) = -1 from numFin_none hne.out hst.out)
            clear dg hx H
            go_wp2
            go_ret
            exact ⟨congrArg (fun z => Ending.returned (.int .i64 z)) hres.out.symm, rfl⟩
        · have dg : dig (by8 D n) = 99 := by unfold dig; rw [if_neg (by omega), if_neg (by omega), if_neg (by omega)]
          rw [dg] at hst
          have f1 : ¬ 48 ≤ by8 D n := by omega
          have f3 : ¬ 97 ≤ by8 D n := by omega
          have f5 : ¬ 65 ≤ by8 D n := by omega
          rw [if_neg (show ¬ 99 < 10 by omega)] at hst
          have hst := Lib.hid hst
          have hres := Lib.hid (show optI (numFin 10 E) = -1 from numFin_none hne.out hst.out)
          clear dg H
          go_wp2
          go_ret
          exact ⟨congrArg (fun z => Ending.returned (.int .i64 z)) hres.out.symm, rfl⟩
        · have dg : dig (by8 D n) = 99 := by unfold dig; rw [if_neg (by omega), if_neg (by omega), if_neg (by omega)]
          rw [dg] at hst
          have f1 : 48 ≤ by8 D n := by omega
          have f2 : ¬ by8 D n ≤ 57 := by omega
          have f3 : ¬ 97 ≤ by8 D n := by omega
          have f5 : ¬ 65 ≤ by8 D n := by omega
          rw [if_neg (show ¬ 99 < 10 by omega)] at hst
          have hst := Lib.hid hst
          have hres := Lib.hid (show optI (numFin 10 E) = -1 from numFin_none hne.out hst.out)
          clear dg H
          go_wp2
          go_ret
          exact ⟨congrArg (fun z => Ending.returned (.int .i64 z)) hres.out.symm, rfl⟩
        · have dg : dig (by8 D n) = 99 := by unfold dig; rw [if_neg (by omega), if_neg (by omega), if_neg (by omega)]
          rw [dg] at hst
          have f1 : 48 ≤ by8 D n := by omega
          have f2 : ¬ by8 D n ≤ 57 := by omega
          have f3 : ¬ 97 ≤ by8 D n := by omega
          have f5 : 65 ≤ by8 D n := by omega
          have f6 : ¬ by8 D n ≤ 70 := by omega
          rw [if_neg (show ¬ 99 < 10 by omega)] at hst
          have hst := Lib.hid hst
          have hres := Lib.hid (show optI (numFin 10 E) = -1 from numFin_none hne.out hst.out)
          clear dg H
          go_wp2
          go_ret
          exact ⟨congrArg (fun z => Ending.returned (.int .i64 z)) hres.out.symm, rfl⟩
        · have dg : dig (by8 D n) = 99 := by unfold dig; rw [if_neg (by omega), if_neg (by omega), if_neg (by omega)]
          rw [dg] at hst
          have f1 : 48 ≤ by8 D n := by omega
          have f2 : ¬ by8 D n ≤ 57 := by omega
          have f3 : 97 ≤ by8 D n := by omega
          have f4 : ¬ by8 D n ≤ 102 := by omega
          have f5 : 65 ≤ by8 D n := by omega
          have f6 : ¬ by8 D n ≤ 70 := by omega
          rw [if_neg (show ¬ 99 < 10 by omega)] at hst
          have hst := Lib.hid hst
          have hres := Lib.hid (show optI (numFin 10 E) = -1 from numFin_none hne.out hst.out)
          clear dg H
          go_wp2
          go_ret
          exact ⟨congrArg (fun z => Ending.returned (.int .i64 z)) hres.out.symm, rfl⟩
      · obtain rfl : n = D.length := by omega
        have hlt' : ¬ ((D.length : Int) < D.length) := by omega
        have hst := H.out
        rw [List.drop_length, numBGo] at hst
        have hst := Lib.hid hst
        have RA := rallowed_any (v : Int) wr (by omega)
        have hon : on allowed (v : Int) = allowed v := by simp [on]
        rw [hon] at RA
        have hne0 := hne0.out
        have hlen : ¬ D.length = 0 := by omega
        have hle2 : ¬ (D.length : Int) = 0 := by omega
        clear H
        rcases ha : allowed v with _ | _
        · rw [ha] at RA
          by_cases h13 : v = 13
          · have d13 : ((v : Int) != 13) = false := by simp; omega
            have hres := Lib.hid (show optI (numFin 10 E) = (v : Int) from numFin_some hne.out hst.out (.inr h13))
            clear h13
            go_wp2_with fail
            refine RA.mono ?_
            rintro e w1 ⟨rfl, rfl⟩
            go_wp2
            go_ret
            exact ⟨congrArg (fun z => Ending.returned (.int .i64 z)) hres.out.symm, rfl⟩
          · have d13 : ((v : Int) != 13) = true := by simp; omega
            have hres := Lib.hid (show optI (numFin 10 E) = -1 from numFin_no hne.out hst.out ha h13)
            clear h13
            go_wp2_with fail
            refine RA.mono ?_
            rintro e w1 ⟨rfl, rfl⟩
            go_wp2
            go_ret
            exact ⟨congrArg (fun z => Ending.returned (.int .i64 z)) hres.out.symm, rfl⟩
        · rw [ha] at RA
          have hres := Lib.hid (show optI (numFin 10 E) = (v : Int) from numFin_some hne.out hst.out (.inl ha))
          go_wp2_with fail
          refine RA.mono ?_
          rintro e w1 ⟨rfl, rfl⟩
          go_wp2
          go_ret
          exact ⟨congrArg (fun z => Ending.returned (.int .i64 z)) hres.out.symm, rfl⟩

theorem numbered_any (D : List UInt8) (w : World) (hl : D.length ≤ 1000000) : Calls Tryz.prog 63 #[.string ⟨D.toArray⟩] w fun e w' => e = .returned (.int .i64 (optI (numB D))) ∧ w = w' := by
  unfold numB
  by_cases hx : by8 D 0 = 120
  · rw [if_pos hx]
    refine numbered_x D _ w (Lib.hid rfl) hl ?_ hx
    cases D with
    | nil => simp [by8] at hx
    | cons b r => simp
  · rw [if_neg hx]
    exact numbered_d D _ w (Lib.hid (List.drop_zero)) hl hx
/-- such a number as no unit has -/
theorem runit_big (u : Nat) (w : World) (hu : u ≤ 1114111) : Calls Tryz.prog 76 #[.int .i64 (u : Int)] w fun e w' => (∃ l : List UInt8, e = .returned (.string ⟨l.toArray⟩)) ∧ Pur w w' := by
  have e1 : (u : Int).tdiv 256 = ((u / 256 : Nat) : Int) := by rw [Int.tdiv_eq_ediv_of_nonneg (by omega)]; omega
  have e2 : (u : Int).tmod 256 = ((u % 256 : Nat) : Int) := by rw [Int.tmod_eq_emod_of_nonneg (by omega)]; omega
  have w1 : IntKind.i64.wrap ((u / 256 : Nat) : Int) = ((u / 256 : Nat) : Int) := IntWalk.i64_in _ (by omega)
  have w2 : IntKind.i64.wrap ((u % 256 : Nat) : Int) = ((u % 256 : Nat) : Int) := IntWalk.i64_in _ (by omega)
  go_enter Tryz.func76, Tryz.ntmps76
  go_wp2
  go_ret
  exact ⟨⟨_, rfl⟩, (Pur.refl w).alloc _⟩
set_option maxRecDepth 100000 in
theorem utf_any (c : Nat) (hc : okc c) (w : World) : Calls Tryz.prog 64 #[.int .i64 (c : Int)] w fun e w' => e = .returned (.string ⟨(enc c).toArray⟩) ∧ Pur w w' := by
  have hle := okc_le hc
  have NR := fun w => rnarrow_any (units c) w (by have := units_length_le c; omega)
  have hnr := narR_flat [c] (fun x hx => by simp at hx; subst hx; exact hc)
  simp only [List.flatMap_cons, List.flatMap_nil, List.append_nil] at hnr
  rw [hnr] at NR
  have RB := fun w => runit_big c w hle
  by_cases hb : 65536 ≤ c
  · obtain ⟨m, hm⟩ : ∃ m, m = c - 65536 := ⟨_, rfl⟩
    obtain ⟨q, hq⟩ : ∃ q, q = m / 1024 := ⟨_, rfl⟩
    obtain ⟨s, hs⟩ : ∃ s, s = m % 1024 := ⟨_, rfl⟩
    obtain ⟨a, ha⟩ : ∃ a, a = 55296 + q := ⟨_, rfl⟩
    obtain ⟨b, hbb⟩ : ∃ b, b = 56320 + s := ⟨_, rfl⟩
    have w1 : IntKind.i64.wrap ((c : Int) - 65536) = (m : Int) := by rw [IntWalk.i64_in _ (by omega)]; omega
    have e1 : (m : Int).tdiv 1024 = (q : Int) := by rw [Int.tdiv_eq_ediv_of_nonneg (by omega)]; omega
    have e2 : (m : Int).tmod 1024 = (s : Int) := by rw [Int.tmod_eq_emod_of_nonneg (by omega)]; omega
    have w2 : IntKind.i64.wrap (q : Int) = (q : Int) := IntWalk.i64_in _ (by omega)
    have w3 : IntKind.i64.wrap (s : Int) = (s : Int) := IntWalk.i64_in _ (by omega)
    have w4 : IntKind.i64.wrap (55296 + (q : Int)) = (a : Int) := by rw [IntWalk.i64_in _ (by omega)]; omega
    have w5 : IntKind.i64.wrap (56320 + (s : Int)) = (b : Int) := by rw [IntWalk.i64_in _ (by omega)]; omega
    have U1 := fun w => runit_any (a : Int) w (by omega) (by omega)
    have U2 := fun w => runit_any (b : Int) w (by omega) (by omega)
    rw [Int.toNat_natCast] at U1 U2
    have hu : units c = unit8 a ++ unit8 b := by unfold units; rw [if_pos hb, ha, hbb, hq, hs, hm]
    rw [hu] at NR
    have z1 : ¬ 9223372036854775807 < (unit8 a).length + (unit8 b).length := by simp [unit8]
    generalize unit8 a = x at *
    generalize unit8 b = y at *
    have d1 : decide ((65536 : Int) ≤ (c : Int)) = true := by simp; omega
    clear hm hq hs ha hbb
    clear hu hnr hb hc hle
    go_enter Tryz.func64, Tryz.ntmps64
    go_wp2_with fail
    refine (RB _).mono ?_
    rintro e w1 ⟨⟨l0, rfl⟩, p1⟩
    go_wp2_with fail
    refine (U1 _).mono ?_
    rintro e w2 ⟨rfl, p2⟩
    go_wp2_with fail
    refine (U2 _).mono ?_
    rintro e w3 ⟨rfl, p3⟩
    go_wp2_with fail
    refine (NR _).mono ?_
    rintro e w4 ⟨rfl, p4⟩
    go_wp2
    go_ret
    exact ⟨rfl, p1.trans (p2.trans (p3.trans p4))⟩
  · have U1 := fun w => runit_any ((c : Nat) : Int) w (by omega) (by omega)
    rw [Int.toNat_natCast] at U1
    have hu : units c = unit8 c := by unfold units; rw [if_neg hb]
    rw [hu] at NR
    generalize unit8 c = x at *
    have d1 : decide ((65536 : Int) ≤ (c : Int)) = false := by simp; omega
    clear hu hnr hb hc hle
    go_enter Tryz.func64, Tryz.ntmps64
    go_wp2_with fail
    refine (U1 _).mono ?_
    rintro e w2 ⟨rfl, p2⟩
    go_wp2_with fail
    refine (NR _).mono ?_
    rintro e w4 ⟨rfl, p4⟩
    go_wp2
    go_ret
    exact ⟨rfl, p2.trans p4⟩
end Tk
end Go.Proofs.YtaknfofppknloaaGreatDoor
