/- Layer 4: what esnum.Number says at a float's own text. Layer 4: Infinity, read; what esnum.Number says at any float's own text. Layer 4: NumBack, NumSigns: the walks. Layer 4: NumSigns: the walk. -/
import Derived.Test.YtciigfaojmpoiaaGreatDoorRbG
import Derived.Test.YtciigfaojmpoiaaGreatDoorFtI
import Derived.Test.YtciigfaojmpoiaaGreatDoorFtH
namespace Go.Proofs.YtciigfaojmpoiaaGreatDoor
open Go Go.RowKit
set_option linter.all false
open Lx (w16)
namespace Mt
open Us P10
/-- a decimal number, a sign ahead -/
theorem pl_sign {D : List UInt8} (h : Nm.Pl D) : Nm.Pl (45 :: D) := fun k hk => by
  cases k with
  | zero => exact ⟨(show (45 : Nat) < 128 by decide), (show Nm.blank 45 = false by decide)⟩
  | succ k =>
    rw [by8_cons]
    rw [List.length_cons] at hk
    exact h k (by omega)
set_option maxRecDepth 100000 in
set_option maxHeartbeats 8000000 in
theorem number_neg2 {Hi Lo T : Nat → Nat} {D : List UInt8} {x : Nat} {b : Bool} {w : World} (hl : D.length ≤ 1000) (h0 : 0 < D.length) (hpl : Nm.Pl D) (hok : Nm.decimal D = true ∨ D = [73, 110, 102, 105, 110, 105, 116, 121]) (hA : Us.AD Hi Lo T (45 :: D) x b) (hW : Nm.NW Hi Lo T w) :
    Calls Tryz.prog 21 #[.string ⟨(w16 (45 :: D)).toArray⟩] w fun e w' => e = .returned (.float .f64 x) ∧ Pur w w' := by
  have hwl := Nm.w16_len (45 :: D)
  have PL := Nm.plain_any (w16 (45 :: D)) w (by rw [hwl, List.length_cons]; omega)
  have PF : ∀ w', Pur w w' → _ := fun w' h => Nm.pf_any hA (by rw [List.length_cons]; omega) (hW.pur h)
  rw [Nm.plain_w16 (pl_sign hpl) (by rw [List.length_cons]; omega)] at PL
  unfold Nm.PlainPost at PL
  have DE := fun w => Nm.decimal_any D w (by omega)
  have hb : by8 (45 :: D) 0 = 45 := rfl
  have hsub : sub (45 :: D) 1 (45 :: D : List UInt8).length = D := by unfold sub; simp
  have x6 : (0 : Int) < (45 :: D : List UInt8).length := by rw [List.length_cons]; omega
  have x7 : (1 : Int) ≤ (45 :: D : List UInt8).length := by rw [List.length_cons]; omega
  obtain ⟨s, hs⟩ : ∃ s : List UInt8, 45 :: D = s := ⟨_, rfl⟩
  have hne : ¬ s = [] := by intro e; rw [e] at hs; cases hs
  have hne2 : s.isEmpty = false := by rw [← hs]; rfl
  rw [hs] at PL hb hsub x6 x7 ⊢
  simp only [hs] at PF
  have d1 : ((by8 s 0 : Int) == 48) = false := by rw [hb]; rfl
  have d2 : ((by8 s 0 : Int) == 43) = false := by rw [hb]; rfl
  have d3 : ((by8 s 0 : Int) == 45) = true := by rw [hb]; rfl
  generalize w16 s = X at *
  rcases hinf : (D == [73, 110, 102, 105, 110, 105, 116, 121]) with _ | _
  · have hdec : Nm.decimal D = true := hok.resolve_right (by rw [beq_eq_false_iff_ne] at hinf; exact hinf)
    rw [hdec] at DE
    have hinf2 : ¬ D = [73, 110, 102, 105, 110, 105, 116, 121] := by rw [beq_eq_false_iff_ne] at hinf; exact hinf
    clear hs hA hW hpl hl hwl hb hok hdec
    rcases t1 : decide ((2 : Int) < (s.length : Int)) with _ | _
    all_goals
      go_enter Tryz.func21, Tryz.ntmps21
      go_wp2_with fail
      refine PL.mono ?_
      rintro e w1 ⟨rfl, p1⟩
      have PF1 := PF w1 p1
      clear PF PL
      go_wp2_with fail
      refine (DE _).mono ?_
      rintro e w2 ⟨rfl, rfl⟩
      go_wp2_with fail
      refine PF1.mono ?_
      rintro e w2 ⟨he, p2⟩
      rcases he with rfl | ⟨te, pe, rfl⟩
      all_goals
        go_wp2
        go_ret
        exact ⟨rfl, p1.trans p2⟩
  · have hinf2 : D = [73, 110, 102, 105, 110, 105, 116, 121] := by rw [beq_iff_eq] at hinf; exact hinf
    have t1 : decide ((2 : Int) < (s.length : Int)) = true := by rw [decide_eq_true_eq, ← hs, hinf2]; decide
    have HD := Lib.hid hinf2
    clear hs hA hW hpl hl hwl hb hok DE hinf2
    go_enter Tryz.func21, Tryz.ntmps21
    go_wp2_with fail
    refine PL.mono ?_
    rintro e w1 ⟨rfl, p1⟩
    have PF1 := PF w1 p1
    clear PF PL
    go_wp2_with fail
    refine PF1.mono ?_
    rintro e w2 ⟨he, p2⟩
    rcases he with rfl | ⟨te, pe, rfl⟩
    all_goals
      go_wp2
      go_ret
      exact ⟨rfl, p1.trans p2⟩
set_option maxRecDepth 100000 in
theorem mnan_any (w : World) : Calls Tryz.prog 36 #[] w fun e w' => e = .returned (.float .f64 9221120237041090561) ∧ w = w' := by
  have h6 := @run_callFunc_extern Tryz.prog 43 _ Go.Extern.MathFloatBits.float64frombits Tryz.func43 (by kernel_rfl) (by kernel_rfl) (by kernel_rfl) (by kernel_rfl)
  have fb : ∀ (n : Int) (w : World), (Go.Extern.MathFloatBits.float64frombits #[.int .u64 n]).run Tryz.prog w = .ok (.float .f64 n.toNat) w := fun n w => rfl
  go_enter Tryz.func36, Tryz.ntmps36
  go_wp2
  go_ret
  exact ⟨rfl, rfl⟩
set_option maxRecDepth 100000 in
set_option maxHeartbeats 8000000 in
/-- what is no number -/
theorem number_no {D : List UInt8} {w : World} (hl : D.length ≤ 1000) (h0 : 0 < D.length) (hpl : Nm.Pl D) (hdec : Nm.decimal D = false) (hinf : ¬ D = [73, 110, 102, 105, 110, 105, 116, 121])
    (hb : ∀ c, c = 43 ∨ c = 45 ∨ c = 48 → by8 D 0 ≠ c) :
    Calls Tryz.prog 21 #[.string ⟨(w16 D).toArray⟩] w fun e w' => e = .returned (.float .f64 9221120237041090561) ∧ Pur w w' := by
  have hwl := Nm.w16_len D
  have PL := Nm.plain_any (w16 D) w (by rw [hwl]; omega)
  rw [Nm.plain_w16 hpl h0] at PL
  unfold Nm.PlainPost at PL
  have DE := fun w => Nm.decimal_any D w (by omega)
  rw [hdec] at DE
  have NA := fun w => mnan_any w
  have x6 : (0 : Int) < D.length := by omega
  have hne : ¬ D = [] := by intro e; rw [e] at h0; simp at h0
  have hne2 : D.isEmpty = false := by cases D with | nil => exact absurd rfl hne | cons _ _ => rfl
  have d1 : ((by8 D 0 : Int) == 48) = false := by rw [beq_eq_false_iff_ne]; have := hb 48 (by simp); omega
  have d2 : ((by8 D 0 : Int) == 43) = false := by rw [beq_eq_false_iff_ne]; have := hb 43 (by simp); omega
  have d3 : ((by8 D 0 : Int) == 45) = false := by rw [beq_eq_false_iff_ne]; have := hb 45 (by simp); omega
  have hinf2 : (D == [73, 110, 102, 105, 110, 105, 116, 121]) = false := by rw [beq_eq_false_iff_ne]; exact hinf
  generalize w16 D = X at *
  clear hpl hl hwl hb hdec
  rcases t1 : decide ((2 : Int) < (D.length : Int)) with _ | _
  all_goals
    go_enter Tryz.func21, Tryz.ntmps21
    go_wp2_with fail
    refine PL.mono ?_
    rintro e w1 ⟨rfl, p1⟩
    clear PL
    go_wp2_with fail
    refine (DE _).mono ?_
    rintro e w2 ⟨rfl, rfl⟩
    go_wp2_with fail
    refine (NA _).mono ?_
    rintro e w2 ⟨rfl, rfl⟩
    go_wp2
    go_ret
    exact ⟨rfl, p1⟩
/-- Infinity, with a sign or without: what special says -/
theorem pre_inf (w : World) :
    Calls Tryz.prog 165 #[.string ⟨#[73, 110, 102, 105, 110, 105, 116, 121]⟩, .string ⟨#[105, 110, 102, 105, 110, 105, 116, 121]⟩] w fun e w' => e = .returned (.int .i64 8) ∧ w = w' := by
  obtain ⟨l, hl⟩ : ∃ l : List UInt8, [73, 110, 102, 105, 110, 105, 116, 121] = l := ⟨_, rfl⟩
  obtain ⟨p, hp⟩ : ∃ p : List UInt8, [105, 110, 102, 105, 110, 105, 116, 121] = p := ⟨_, rfl⟩
  have hll : l.length = 8 := by rw [← hl]; rfl
  have hpl : p.length = 8 := by rw [← hp]; rfl
  have b0 : by8 l 0 = 73 := by rw [← hl]; rfl
  have c0 : by8 p 0 = 105 := by rw [← hp]; rfl
  have bn : ∀ n, n < 8 → 0 < n → by8 l n = by8 p n ∧ 97 ≤ by8 l n ∧ by8 l n < 128 := by
    rw [← hl, ← hp]; decide
  show Calls Tryz.prog 165 #[.string ⟨([73, 110, 102, 105, 110, 105, 116, 121] : List UInt8).toArray⟩, .string ⟨([105, 110, 102, 105, 110, 105, 116, 121] : List UInt8).toArray⟩] w _
  rw [hl, hp]
  clear hl hp
  have hl1 : (l.length : Int) = 8 := by omega
  have hl2 : (p.length : Int) = 8 := by omega
  go_enter Tryz.func165, Tryz.ntmps165
  go_wp2
  go_loopw [6] (fun x wr => ∃ n : Nat, n ≤ 8 ∧ x = .int .i64 n ∧ w = wr) (fun x _ => 9 - (intOf x).toNat)
  case atStart => exact ⟨0, by omega, rfl, rfl⟩
  case round =>
    obtain ⟨n, hn, rfl, rfl⟩ := hrel
    by_cases hlt : n < 8
    · have a1 : (n : Int) < 8 := by omega
      by_cases hz : n = 0
      · subst hz
        clear bn
        go_wp2
        go_roundw
        case rel => exact ⟨1, by omega, rfl, trivial⟩
        case measure => simp [intOf]
      · obtain ⟨e1, e2, e3⟩ := bn n hlt (by omega)
        clear bn
        have d1 : decide ((by8 l n : Int) ≤ 90) = false := by rw [decide_eq_false_iff_not]; omega
        have d2 : ((by8 l n : Int) != (by8 p n : Int)) = false := by rw [bne_eq_false_iff_eq, e1]
        have d3 : decide ((65 : Int) ≤ (by8 l n : Int)) = true := by rw [decide_eq_true_eq]; omega
        clear e1
        go_wp2
        go_roundw
        case rel => exact ⟨n + 1, by omega, by go_num, trivial⟩
        case measure => simp [intOf]; omega
    · obtain rfl : n = 8 := by omega
      clear bn
      go_wp2
      go_ret
      exact ⟨rfl, rfl⟩
end Mt
end Go.Proofs.YtciigfaojmpoiaaGreatDoor
namespace Go.Proofs.YtciigfaojmpoiaaGreatDoor
open Go Go.RowKit
set_option linter.all false
open Lx (w16)
namespace Mt
open Us P10
def infB : List UInt8 := [73, 110, 102, 105, 110, 105, 116, 121]
set_option maxRecDepth 100000 in
theorem special_inf (n : Bool) (w : World) :
    Calls Tryz.prog 148 #[.string ⟨((if n then [45] else []) ++ infB).toArray⟩] w fun e w' => e = .returned (.tuple #[.float .f64 (if n then 18442240474082181120 else 9218868437227405312), .int .i64 (if n then 9 else 8), .bool true]) ∧ w = w' := by
  have h6 := @run_callFunc_extern Tryz.prog 158 _ Go.Extern.MathFloatBits.float64frombits Tryz.func158 (by kernel_rfl) (by kernel_rfl) (by kernel_rfl) (by kernel_rfl)
  have fb : ∀ (n : Int) (w : World), (Go.Extern.MathFloatBits.float64frombits #[.int .u64 n]).run Tryz.prog w = .ok (.float .f64 n.toNat) w := fun n w => rfl
  have PN := fun w => pre_inf w
  have IP : ∀ w, Calls Tryz.prog 166 #[.int .i64 1] w fun e w' => e = .returned (.float .f64 9218868437227405312) ∧ w = w' := fun w => by
    go_enter Tryz.func166, Tryz.ntmps166
    go_wp2
    go_ret
    exact ⟨rfl, rfl⟩
  have IN : ∀ w, Calls Tryz.prog 166 #[.int .i64 (-1)] w fun e w' => e = .returned (.float .f64 18442240474082181120) ∧ w = w' := fun w => by
    go_enter Tryz.func166, Tryz.ntmps166
    go_wp2
    go_ret
    exact ⟨rfl, rfl⟩
  cases n
  · have hsub : ∃ l : List UInt8, infB = l ∧ ¬ l = [] ∧ (l.length : Int) = 8 ∧ by8 l 0 = 73 ∧ l = [73, 110, 102, 105, 110, 105, 116, 121] := ⟨_, rfl, by decide, rfl, rfl, rfl⟩
    obtain ⟨l, hl, hne, hlen, hb, hL⟩ := hsub
    have PN2 : ∀ w, Calls Tryz.prog 165 #[.string ⟨l.toArray⟩, .string ⟨#[105, 110, 102, 105, 110, 105, 116, 121]⟩] w fun e w' => e = .returned (.int .i64 8) ∧ w = w' := by rw [hL]; exact PN
    rw [if_neg (by decide), if_neg (by decide), if_neg (by decide), List.nil_append, hl]
    clear hl hL PN IN
    have d0 : ((l.length : Int) == 0) = false := by rw [hlen]; rfl
    have h0' : (0 : Int) < l.length := by omega
    have d1 : ((by8 l 0 : Int) == 43) = false := by rw [hb]; rfl
    have d2 : ((by8 l 0 : Int) == 45) = false := by rw [hb]; rfl
    have d3 : ((by8 l 0 : Int) == 105) = false := by rw [hb]; rfl
    have d4 : ((by8 l 0 : Int) == 73) = true := by rw [hb]; rfl
    go_enter Tryz.func148, Tryz.ntmps148
    go_wp2_with fail
    refine (PN2 _).mono ?_
    rintro e w1 ⟨rfl, rfl⟩
    go_wp2_with fail
    refine (IP _).mono ?_
    rintro e w1 ⟨rfl, rfl⟩
    go_wp2
    go_ret3
    exact ⟨rfl, rfl⟩
  · have hsub : ∃ l : List UInt8, 45 :: infB = l ∧ ¬ l = [] ∧ (l.length : Int) = 9 ∧ by8 l 0 = 45 ∧ sub l 1 l.length = [73, 110, 102, 105, 110, 105, 116, 121] := ⟨_, rfl, by decide, rfl, rfl, rfl⟩
    obtain ⟨l, hl, hne, hlen, hb, hL⟩ := hsub
    rw [if_pos rfl, if_pos rfl, if_pos rfl, show [45] ++ infB = 45 :: infB from rfl, hl]
    clear hl IP
    have d0 : ((l.length : Int) == 0) = false := by rw [hlen]; rfl
    have h0' : (0 : Int) < l.length := by omega
    have h1' : (1 : Int) ≤ l.length := by omega
    have d1 : ((by8 l 0 : Int) == 43) = false := by rw [hb]; rfl
    have d2 : ((by8 l 0 : Int) == 45) = true := by rw [hb]; rfl
    clear hlen
    go_enter Tryz.func148, Tryz.ntmps148
    go_wp2_with fail
    refine (PN _).mono ?_
    rintro e w1 ⟨rfl, rfl⟩
    go_wp2_with fail
    refine (IN _).mono ?_
    rintro e w1 ⟨rfl, rfl⟩
    go_wp2
    go_ret3
    exact ⟨rfl, rfl⟩
set_option maxRecDepth 100000 in
theorem ad_inf (n : Bool) {Hi Lo T : Nat → Nat} : AD Hi Lo T ((if n then [45] else []) ++ infB) (if n then 18442240474082181120 else 9218868437227405312) false := by
  intro w hW
  have SP := fun w => special_inf n w
  have hlen : (((if n then [45] else []) ++ infB).length : Int) = (if n then 9 else 8) := by cases n <;> rfl
  rw [← hlen] at SP
  generalize (if n then [45] else []) ++ infB = l at *
  generalize (if n then 18442240474082181120 else 9218868437227405312 : Nat) = x at *
  clear hW hlen
  go_enter Tryz.func120, Tryz.ntmps120
  go_wp2_with fail
  refine (SP _).mono ?_
  rintro e w1 ⟨rfl, rfl⟩
  go_wp2
  go_ret3
  exact ⟨rfl, Pur.refl _⟩
end Mt
end Go.Proofs.YtciigfaojmpoiaaGreatDoor
namespace Go.Proofs.YtciigfaojmpoiaaGreatDoor
open Go Go.RowKit
set_option linter.all false
open Lx (w16)
namespace Mt
open Us P10
set_option maxRecDepth 100000 in
set_option maxHeartbeats 8000000 in
theorem number_inf {w : World} (hW : Nm.NW Hi0 Lo0 T0 w) :
    Calls Tryz.prog 21 #[.string ⟨(w16 infB).toArray⟩] w fun e w' => e = .returned (.float .f64 9218868437227405312) ∧ Pur w w' := by
  have hA := ad_inf false (Hi := Hi0) (Lo := Lo0) (T := T0)
  rw [if_neg (by decide), if_neg (by decide), List.nil_append] at hA
  have hwl := Nm.w16_len infB
  have hl8 : infB.length = 8 := rfl
  have hpl : Nm.Pl infB := by unfold Nm.Pl; rw [hl8]; decide
  have PL := Nm.plain_any (w16 infB) w (by rw [hwl]; decide)
  have PF : ∀ w', Pur w w' → _ := fun w' h => Nm.pf_any hA (by decide) (hW.pur h)
  rw [Nm.plain_w16 hpl (by decide)] at PL
  unfold Nm.PlainPost at PL
  obtain ⟨s, hs⟩ : ∃ s : List UInt8, infB = s := ⟨_, rfl⟩
  have hb : by8 s 0 = 73 := by rw [← hs]; rfl
  have hlen : (s.length : Int) = 8 := by rw [← hs]; rfl
  have hne : ¬ s = [] := by rw [← hs]; decide
  have hne2 : s.isEmpty = false := by rw [← hs]; rfl
  have hinf2 : s = [73, 110, 102, 105, 110, 105, 116, 121] := by rw [← hs]; rfl
  have hinf : (s == [73, 110, 102, 105, 110, 105, 116, 121]) = true := by rw [← hs]; rfl
  rw [hs] at PL ⊢
  simp only [hs] at PF
  have x6 : (0 : Int) < s.length := by omega
  have t1 : decide ((2 : Int) < (s.length : Int)) = true := by rw [decide_eq_true_eq]; omega
  have d1 : ((by8 s 0 : Int) == 48) = false := by rw [hb]; rfl
  have d2 : ((by8 s 0 : Int) == 43) = false := by rw [hb]; rfl
  have d3 : ((by8 s 0 : Int) == 45) = false := by rw [hb]; rfl
  have HD := Lib.hid hinf2
  generalize w16 s = X at *
  clear hs hpl hwl hb hA hW hinf2 hlen hl8
  go_enter Tryz.func21, Tryz.ntmps21
  go_wp2_with fail
  refine PL.mono ?_
  rintro e w1 ⟨rfl, p1⟩
  have PF1 := PF w1 p1
  clear PF PL
  go_wp2_with fail
  refine PF1.mono ?_
  rintro e w2 ⟨he, p2⟩
  rcases he with rfl | ⟨te, pe, rfl⟩
  all_goals
    go_wp2
    go_ret
    exact ⟨rfl, p1.trans p2⟩
/-- what a float's text is read as -/
def rback (b : Nat) : Nat := if Ie.nan b = true then 9221120237041090561 else if b % 9223372036854775808 = 0 then 0 else b
theorem neg_of (r : Nat) (h : r < 9223372036854775808) : Op.negFloat .f64 r = 9223372036854775808 + r := by
  have := Ie.neg_word false h
  rw [Rb.wf0] at this
  rw [this]
  unfold Ieee.Format.word
  rw [Ie.d_sign]; rfl
theorem txt_len {b : Nat} (hb : b < 18446744073709551616) : (Ft.txt Hi0 Lo0 b).length ≤ 25 := by
  have key : ∀ r, 0 < r → r ≤ 9218868437227405312 → (Ft.txp Hi0 Lo0 r).length ≤ 24 := fun r h0 h1 => by
    unfold Ft.txp
    by_cases g : r = 9218868437227405312
    · rw [if_pos g]; decide
    · rw [if_neg g]
      exact (Rb.back [] h0 (by omega)).2.2.1
  unfold Ft.txt
  split
  · decide
  · rename_i gn
    have gn2 := of_decide_eq_false (show Ie.nan b = false by simpa using gn)
    split
    · decide
    · have := key (b % 9223372036854775808) (by omega) (by omega)
      split
      · rw [List.length_cons]; omega
      · omega
theorem number_txt {w : World} (b : Nat) (hb : b < 18446744073709551616) (h : Ft.AK w) :
    Calls Tryz.prog 21 #[.string ⟨(w16 (Ft.txt Hi0 Lo0 b)).toArray⟩] w fun e w' => e = .returned (.float .f64 (rback b)) ∧ Pur w w' := by
  unfold rback Ft.txt
  by_cases gn : Ie.nan b = true
  · rw [if_pos gn, if_pos gn]
    exact number_no (by decide) (by decide) (by unfold Nm.Pl; decide) (by decide) (by decide) (fun c hc => by rcases hc with rfl | rfl | rfl <;> decide)
  rw [if_neg gn, if_neg gn]
  have gn2 := of_decide_eq_false (show Ie.nan b = false by simpa using gn)
  by_cases g0 : b % 9223372036854775808 = 0
  · rw [if_pos g0, if_pos g0]
    have := number_int 0 (by decide) h
    rw [show Ft.zT 0 = [48] by decide +kernel, show floatOfInt .f64 0 = 0 by decide] at this
    exact this
  rw [if_neg g0, if_neg g0]
  obtain ⟨r, hr⟩ : ∃ r, b % 9223372036854775808 = r := ⟨_, rfl⟩
  rw [hr] at gn2 g0 ⊢
  by_cases gs : 9223372036854775808 ≤ b
  · rw [if_pos gs, show b = 9223372036854775808 + r by omega]
    unfold Ft.txp
    by_cases gi : r = 9218868437227405312
    · rw [if_pos gi]
      have hA := ad_inf true (Hi := Hi0) (Lo := Lo0) (T := T0)
      rw [if_pos rfl, if_pos rfl] at hA
      rw [gi]
      exact number_neg2 (D := infB) (by decide) (by decide) (by unfold Nm.Pl; rw [show infB.length = 8 from rfl]; decide) (.inr rfl) hA h.n
    · rw [if_neg gi]
      obtain ⟨-, h2, h3, h4⟩ := Rb.back [] (b := r) (by omega) (by omega)
      exact number_neg2 (by omega) (by obtain ⟨c, t, e, -⟩ := h4; rw [e]; simp) (Nm.dec_pl h2) (.inl h2) (Rb.ad_sign (by omega) (by omega)) h.n
  · rw [if_neg gs, show b = r by omega]
    unfold Ft.txp
    by_cases gi : r = 9218868437227405312
    · rw [if_pos gi, gi]
      exact number_inf h.n
    · rw [if_neg gi]
      obtain ⟨-, h2, h3, h4⟩ := Rb.back [] (b := r) (by omega) (by omega)
      exact Nm.number_dec (by rw [Nm.w16_len]; omega) (Nm.plain_w16 (Nm.dec_pl h2) (by obtain ⟨c, t, e, -⟩ := h4; rw [e]; simp)) h2 (Rb.ad_pos (by omega) (by omega)) h.n
/-- how a float stands to nought -/
theorem zord (b : Nat) (hb : b < 18446744073709551616) : FloatKind.f64.format.order b 0 = if Ie.nan b = true then none else if b % 9223372036854775808 = 0 then some .eq else if 9223372036854775808 ≤ b then some .lt else some .gt := by
  by_cases gn : Ie.nan b = true
  · rw [if_pos gn]; exact Ie.order_nan1 gn 0
  rw [if_neg gn]
  have gn : Ie.nan b = false := by simpa using gn
  have gn2 := of_decide_eq_false gn
  have cmp : ∀ x y : Int, compare x y = if x < y then .lt else if x = y then .eq else .gt := fun x y => rfl
  have o2 := Ie.order_rk (decide (9223372036854775808 ≤ b)) false (a := b % 9223372036854775808) (b := 0) (by omega) (by decide)
  rw [← Ie.word_ex b hb, cmp] at o2
  refine Eq.trans o2 ?_
  by_cases g0 : b % 9223372036854775808 = 0
  · rw [if_pos g0, g0]
    unfold Ie.rk
    split <;> simp
  · rw [if_neg g0]
    by_cases gs : 9223372036854775808 ≤ b
    · rw [if_pos gs, decide_eq_true gs]
      show some (if -((b % 9223372036854775808 : Nat) : Int) < 0 then Ordering.lt else _) = _
      rw [if_pos (by omega)]
    · rw [if_neg gs, decide_eq_false gs]
      show some (if ((b % 9223372036854775808 : Nat) : Int) < 0 then Ordering.lt else if ((b % 9223372036854775808 : Nat) : Int) = 0 then _ else _) = _
      rw [if_neg (by omega), if_neg (by omega)]
set_option maxRecDepth 100000 in
set_option maxHeartbeats 4000000 in
theorem back_law (b : Nat) (w : World) (hb : b < 18446744073709551616) (h : Ft.AK w) :
    Calls Tryz.prog 8 #[.float .f64 b] w fun e w' => e = .returned (.bool true) ∧ Pur w w' := by
  have AW := Ft.awake_any h
  have ZO := zord b hb
  have hlen := txt_len hb
  have hl25 : decide (((Ft.txt Hi0 Lo0 b).length : Int) ≤ 25) = true := by rw [decide_eq_true_eq]; omega
  have hrb : rback b < 18446744073709551616 := by unfold rback; split <;> (try split) <;> omega
  have T1 := fun (W : World) (hp : Pur w W) => Ft.text_any b (h.pur hp).x hb
  have OF := fun w => Ft.of_any (Ft.txt Hi0 Lo0 b) w (by omega)
  have NN := fun (W : World) (hp : Pur w W) => number_txt b hb (h.pur hp)
  have SA := fun w => same_any b (rback b) w hb hrb
  by_cases gn : Ie.nan b = true
  · rw [if_pos gn] at ZO
    have hs : same b (rback b) = true := by
      have : rback b = 9221120237041090561 := by unfold rback; rw [if_pos gn]
      rw [this]; unfold same; rw [gn, Bool.true_or, if_pos rfl]; decide
    rw [hs] at SA
    generalize rback b = y at *
    generalize Ft.txt Hi0 Lo0 b = T at *
    generalize w16 T = X at *
    clear hs hrb hlen hb h gn
    go_enter Tryz.func8, Tryz.ntmps8
    go_wp2_with fail
    refine AW.mono ?_
    rintro e w1 ⟨rfl, p1⟩
    go_wp2_with fail
    refine (T1 _ p1).mono ?_
    rintro e w3 ⟨rfl, q3⟩
    have p3 := p1.trans q3
    go_wp2_with fail
    refine (OF _).mono ?_
    rintro e w4 ⟨rfl, q4⟩
    have p4 := p3.trans q4
    go_wp2_with fail
    refine (NN _ p4).mono ?_
    rintro e w5 ⟨rfl, q5⟩
    have p5 := p4.trans q5
    go_wp2_with fail
    refine (SA _).mono ?_
    rintro e w6 ⟨rfl, rfl⟩
    go_wp2
    go_ret
    exact ⟨rfl, p5⟩
  rw [if_neg gn] at ZO
  by_cases g0 : b % 9223372036854775808 = 0
  · rw [if_pos g0] at ZO
    have hy : rback b = 0 := by unfold rback; rw [if_neg gn, if_pos g0]
    have ht : Ft.txt Hi0 Lo0 b = [48] := by unfold Ft.txt; rw [if_neg gn, if_pos g0]
    rw [hy] at NN
    rw [ht] at T1 OF NN
    have o2 : FloatKind.f64.format.order 0 0 = some .eq := by decide
    generalize w16 [48] = X at *
    clear hy ht hrb hlen hb h gn g0 SA hl25
    go_enter Tryz.func8, Tryz.ntmps8
    go_wp2_with fail
    refine AW.mono ?_
    rintro e w1 ⟨rfl, p1⟩
    go_wp2_with fail
    refine (T1 _ p1).mono ?_
    rintro e w3 ⟨rfl, q3⟩
    have p3 := p1.trans q3
    go_wp2_with fail
    refine (OF _).mono ?_
    rintro e w4 ⟨rfl, q4⟩
    have p4 := p3.trans q4
    go_wp2_with fail
    refine (NN _ p4).mono ?_
    rintro e w5 ⟨rfl, q5⟩
    have p5 := p4.trans q5
    go_wp2
    go_ret
    exact ⟨rfl, p5⟩
  rw [if_neg g0] at ZO
  have hy : rback b = b := by unfold rback; rw [if_neg gn, if_neg g0]
  rw [hy] at NN SA
  rw [same_refl] at SA
  obtain ⟨o, ho, hoe⟩ : ∃ o, FloatKind.f64.format.order b 0 = some o ∧ (o = .lt ∨ o = .gt) := by
    by_cases gs : 9223372036854775808 ≤ b
    · rw [if_pos gs] at ZO; exact ⟨_, ZO, .inl rfl⟩
    · rw [if_neg gs] at ZO; exact ⟨_, ZO, .inr rfl⟩
  generalize Ft.txt Hi0 Lo0 b = T at *
  generalize w16 T = X at *
  clear ZO hy hrb hlen hb h gn g0
  rcases hoe with rfl | rfl
  all_goals
    go_enter Tryz.func8, Tryz.ntmps8
    go_wp2_with fail
    refine AW.mono ?_
    rintro e w1 ⟨rfl, p1⟩
    go_wp2_with fail
    refine (T1 _ p1).mono ?_
    rintro e w3 ⟨rfl, q3⟩
    have p3 := p1.trans q3
    go_wp2_with fail
    refine (OF _).mono ?_
    rintro e w4 ⟨rfl, q4⟩
    have p4 := p3.trans q4
    go_wp2_with fail
    refine (NN _ p4).mono ?_
    rintro e w5 ⟨rfl, q5⟩
    have p5 := p4.trans q5
    go_wp2_with fail
    refine (SA _).mono ?_
    rintro e w6 ⟨rfl, rfl⟩
    go_wp2
    go_ret
    exact ⟨rfl, p5⟩
end Mt
end Go.Proofs.YtciigfaojmpoiaaGreatDoor
namespace Go.Proofs.YtciigfaojmpoiaaGreatDoor
open Go Go.RowKit
set_option linter.all false
open Lx (w16)
namespace Mt
open Us P10
set_option maxRecDepth 100000 in
set_option maxHeartbeats 8000000 in
theorem signs_law (b : Nat) (w : World) (hb : b < 18446744073709551616) (h : Ft.AK w) :
    Calls Tryz.prog 7 #[.float .f64 b] w fun e w' => e = .returned (.bool true) ∧ Pur w w' := by
  have AW := Ft.awake_any h
  have ZO := zord b hb
  have T1 := fun (W : World) (hp : Pur w W) => Ft.text_any b (h.pur hp).x hb
  by_cases gn : Ie.nan b = true
  · have o1 : FloatKind.f64.format.order b b = none := Ie.order_nan1 gn b
    have ht : Ft.txt Hi0 Lo0 b = [78, 97, 78] := by unfold Ft.txt; rw [if_pos gn]
    rw [ht] at T1
    clear ZO hb h gn ht
    go_enter Tryz.func7, Tryz.ntmps7
    go_wp2_with fail
    refine AW.mono ?_
    rintro e w1 ⟨rfl, p1⟩
    go_wp2_with fail
    refine (T1 _ p1).mono ?_
    rintro e w3 ⟨rfl, q3⟩
    go_wp2
    go_ret
    exact ⟨rfl, p1.trans q3⟩
  have o1 : FloatKind.f64.format.order b b = some .eq := Ie.order_self hb (by simpa using gn)
  rw [if_neg gn] at ZO
  by_cases g0 : b % 9223372036854775808 = 0
  · rw [if_pos g0] at ZO
    have ht : Ft.txt Hi0 Lo0 b = [48] := by unfold Ft.txt; rw [if_neg gn, if_pos g0]
    rw [ht] at T1
    clear hb h gn ht g0
    go_enter Tryz.func7, Tryz.ntmps7
    go_wp2_with fail
    refine AW.mono ?_
    rintro e w1 ⟨rfl, p1⟩
    go_wp2_with fail
    refine (T1 _ p1).mono ?_
    rintro e w3 ⟨rfl, q3⟩
    have p3 := p1.trans q3
    go_wp2_with fail
    refine (T1 _ p3).mono ?_
    rintro e w4 ⟨rfl, q4⟩
    go_wp2
    go_ret
    exact ⟨rfl, p3.trans q4⟩
  rw [if_neg g0] at ZO
  obtain ⟨r, hr⟩ : ∃ r, b % 9223372036854775808 = r := ⟨_, rfl⟩
  have gn2 := of_decide_eq_false (show Ie.nan b = false by simpa using gn)
  rw [hr] at gn2 g0
  obtain ⟨x, hx⟩ : ∃ x, 9223372036854775808 + r = x := ⟨_, rfl⟩
  have hr63 : r < 9223372036854775808 := by omega
  have nr : Ie.nan r = false := by unfold Ie.nan; rw [decide_eq_false_iff_not]; omega
  have nx : Ie.nan x = false := by unfold Ie.nan; rw [decide_eq_false_iff_not]; omega
  have n1 : Op.negFloat .f64 r = x := by rw [neg_of r hr63, hx]
  have n2 : Op.negFloat .f64 x = r := by
    have := Ie.neg_word true (r := r) hr63
    rw [show Ieee.double.word true r = x by rw [← hx]; unfold Ieee.Format.word; rw [Ie.d_sign]; rfl] at this
    rw [this]
    exact Rb.wf0 r
  have nf1 : ∀ w : World, (Op.unary .neg (.float .f64 r)).run Tryz.prog w = .ok (.float .f64 x) w := fun w => by
    show Result.ok (Value.float .f64 (Op.negFloat .f64 r)) w = _
    rw [n1]
  have nf2 : ∀ w : World, (Op.unary .neg (.float .f64 x)).run Tryz.prog w = .ok (.float .f64 r) w := fun w => by
    show Result.ok (Value.float .f64 (Op.negFloat .f64 x)) w = _
    rw [n2]
  obtain ⟨S, hS⟩ : ∃ S, Ft.txp Hi0 Lo0 r = S := ⟨_, rfl⟩
  have tr : Ft.txt Hi0 Lo0 r = S := by
    unfold Ft.txt
    rw [if_neg (by rw [nr]; decide), if_neg (by omega), if_neg (by omega), Nat.mod_eq_of_lt hr63, hS]
  have tx : Ft.txt Hi0 Lo0 x = 45 :: S := by
    unfold Ft.txt
    rw [if_neg (by rw [nx]; decide), if_neg (by omega), if_pos (by omega), show x % 9223372036854775808 = r by omega, hS]
  have hl := txt_len (b := x) (by omega)
  rw [tx, List.length_cons] at hl
  have z1 : ¬ 9223372036854775807 < 1 + S.length := by omega
  have TS := fun (W : World) (hp : Pur w W) => Ft.text_any r (h.pur hp).x (by omega)
  have TT := fun (W : World) (hp : Pur w W) => Ft.text_any x (h.pur hp).x (by omega)
  have NS := fun (W : World) (hp : Pur w W) => number_txt r (by omega) (h.pur hp)
  have NT := fun (W : World) (hp : Pur w W) => number_txt x (by omega) (h.pur hp)
  have rr : rback r = r := by unfold rback; rw [if_neg (by rw [nr]; decide), if_neg (by omega)]
  have rx : rback x = x := by unfold rback; rw [if_neg (by rw [nx]; decide), if_neg (by omega)]
  rw [rr, tr] at NS
  rw [rx, tx] at NT
  simp only [tr] at TS
  simp only [tx] at TT
  have OS := fun w => Ft.of_any S w (by omega)
  have OT := fun w => Ft.of_any (45 :: S) w (by rw [List.length_cons]; omega)
  have SR := fun w => same_any r r w (by omega) (by omega)
  have SX := fun w => same_any x x w (by omega) (by omega)
  rw [same_refl] at SR SX
  generalize w16 (45 :: S) = X at *
  generalize w16 S = Y at *
  by_cases gs : 9223372036854775808 ≤ b
  · rw [if_pos gs] at ZO
    obtain rfl : b = x := by omega
    clear gs hx hr hr63 nr nx n1 n2 rr rx tr tx hl hS gn gn2 g0 h hb T1
    go_enter Tryz.func7, Tryz.ntmps7
    go_wp2_with fail
    refine AW.mono ?_
    rintro e w1 ⟨rfl, p1⟩
    go_wp2_with fail
    refine (TS _ p1).mono ?_
    rintro e w3 ⟨rfl, q3⟩
    have p3 := p1.trans q3
    go_wp2_with fail
    refine (TT _ p3).mono ?_
    rintro e w4 ⟨rfl, q4⟩
    have p4 := p3.trans q4
    go_wp2_with fail
    refine (OT _).mono ?_
    rintro e w5 ⟨rfl, q5⟩
    have p5 := p4.trans q5
    go_wp2_with fail
    refine (NT _ p5).mono ?_
    rintro e w6 ⟨rfl, q6⟩
    have p6 := p5.trans q6
    go_wp2_with fail
    refine (SX _).mono ?_
    rintro e w7 ⟨rfl, rfl⟩
    go_wp2_with fail
    refine (OS _).mono ?_
    rintro e w8 ⟨rfl, q8⟩
    have p8 := p6.trans q8
    go_wp2_with fail
    refine (NS _ p8).mono ?_
    rintro e w9 ⟨rfl, q9⟩
    have p9 := p8.trans q9
    go_wp2_with fail
    refine (SR _).mono ?_
    rintro e wa ⟨rfl, rfl⟩
    go_wp2
    go_ret
    exact ⟨rfl, p9⟩
  · rw [if_neg gs] at ZO
    obtain rfl : b = r := by omega
    clear gs hx hr hr63 nr nx n1 n2 rr rx tr tx hl hS gn gn2 g0 h hb T1
    go_enter Tryz.func7, Tryz.ntmps7
    go_wp2_with fail
    refine AW.mono ?_
    rintro e w1 ⟨rfl, p1⟩
    go_wp2_with fail
    refine (TS _ p1).mono ?_
    rintro e w3 ⟨rfl, q3⟩
    have p3 := p1.trans q3
    go_wp2_with fail
    refine (TT _ p3).mono ?_
    rintro e w4 ⟨rfl, q4⟩
    have p4 := p3.trans q4
    go_wp2_with fail
    refine (OT _).mono ?_
    rintro e w5 ⟨rfl, q5⟩
    have p5 := p4.trans q5
    go_wp2_with fail
    refine (NT _ p5).mono ?_
    rintro e w6 ⟨rfl, q6⟩
    have p6 := p5.trans q6
    go_wp2_with fail
    refine (SX _).mono ?_
    rintro e w7 ⟨rfl, rfl⟩
    go_wp2_with fail
    refine (OS _).mono ?_
    rintro e w8 ⟨rfl, q8⟩
    have p8 := p6.trans q8
    go_wp2_with fail
    refine (NS _ p8).mono ?_
    rintro e w9 ⟨rfl, q9⟩
    have p9 := p8.trans q9
    go_wp2_with fail
    refine (SR _).mono ?_
    rintro e wa ⟨rfl, rfl⟩
    go_wp2
    go_ret
    exact ⟨rfl, p9⟩
end Mt
end Go.Proofs.YtciigfaojmpoiaaGreatDoor
