/- Layer 4: the number of a wide text that is one, out of what atof64 answers. Layer 4: the number of every wide text: it ends, and says one and the same. Layer 4: the number of every wide text: it ends, and says one and the same; all together. -/
import Derived.Test.YtapgibcdbggpkaaGreatDoorNmZ
import Derived.Test.YtapgibcdbggpkaaGreatDoorPnX
import Derived.Test.YtapgibcdbggpkaaGreatDoorNmQ
import Derived.Test.YtapgibcdbggpkaaGreatDoorSgB
namespace Go.Proofs.YtapgibcdbggpkaaGreatDoor
open Go Go.RowKit
set_option linter.all false
namespace Nm
open Us (FW AD)
/-- the library's variables that a number asks -/
structure NW (Hi Lo T : Nat → Nat) (w : World) : Prop where
  fw : FW Hi Lo T w
  er : ∃ ev, w.cell? ⟨2, 0, none⟩ = some ev ∧ (ev = .nilIface ∨ ∃ te pe, ev = .iface te pe)
theorem NW.pur {Hi Lo T : Nat → Nat} {w w' : World} (h : NW Hi Lo T w) (hp : Pur w w') : NW Hi Lo T w' := by
  obtain ⟨ev, h1, h2⟩ := h.er
  exact ⟨h.fw.pur hp, ev, Us.cellp h1 hp, h2⟩
theorem pf_any {Hi Lo T : Nat → Nat} {l : List UInt8} {x : Nat} {b : Bool} (hA : AD Hi Lo T l x b) (hl : l.length ≤ 1000000) {w : World} (hW : NW Hi Lo T w) :
    Calls Tryz.prog 66 #[.string ⟨l.toArray⟩, .int .i64 64] w fun e w' => (e = .returned (.tuple #[.float .f64 x, .nilIface]) ∨ ∃ te pe, e = .returned (.tuple #[.float .f64 x, .iface te pe])) ∧ Pur w w' := by
  cases b with
  | false =>
    refine (Us.parse_ok hA hl hW.fw).mono ?_
    rintro e w' ⟨h1, h2⟩
    exact ⟨.inl h1, h2⟩
  | true =>
    obtain ⟨ev, h1, h2⟩ := hW.er
    refine (Us.parse_range hA hl hW.fw h1 h2).mono ?_
    rintro e w' ⟨h1, h2⟩
    exact ⟨.inr h1, h2⟩
set_option maxRecDepth 100000 in
set_option maxHeartbeats 8000000 in
theorem number_hex2 {Hi Lo T : Nat → Nat} {l s : List UInt8} {x : Nat} {b : Bool} {w : World} (hl : l.length ≤ 1000000) (hp : plain l = some s) (hx : isHex s = true) (hA : AD Hi Lo T (s ++ [112, 48]) x b) (hW : NW Hi Lo T w) :
    Calls Tryz.prog 42 #[.string ⟨l.toArray⟩] w fun e w' => e = .returned (.float .f64 x) ∧ Pur w w' := by
  have PL := plain_any l w (by omega)
  have hsl := plain_len hp
  have PF : ∀ w', Pur w w' → _ := fun w' h => pf_any hA (by rw [List.length_append]; simp; omega) (hW.pur h)
  rw [hp] at PL
  unfold PlainPost at PL
  unfold isHex at hx
  rw [decide_eq_true_eq] at hx
  obtain ⟨x1, x2, x3, x4⟩ := hx
  have x1' : (2 : Int) < s.length := by omega
  have x5 : (1 : Int) < s.length := by omega
  have x6 : (0 : Int) < s.length := by omega
  have hb1 := by8_lt s 1
  have ho : bits .or .u8 (by8 s 1 : Int) 32 = 120 := by
    have := u8_or_nat (by8 s 1) 32 hb1 (by decide)
    rw [show ((32 : Nat) : Int) = 32 from rfl] at this
    rw [this]
    rcases x3 with h | h <;> rw [h] <;> rfl
  have d0 : ((by8 s 0 : Int) == 48) = true := by rw [beq_iff_eq]; omega
  have hne : ¬ s = [] := by intro e; rw [e] at x1; simp at x1
  have hne2 : s.isEmpty = false := by cases s with | nil => exact absurd rfl hne | cons _ _ => rfl
  have hsub : sub s 2 s.length = s.drop 2 := by unfold sub; rw [List.take_of_length_le (by rw [List.length_drop]; omega)]
  have RU := fun w => run_any (sub s 2 s.length) hexes w (by rw [hsub, List.length_drop]; omega)
  rw [hsub, x4, show ((s.length - 2 : Nat) : Int) = (s.length : Int) - 2 by omega, ← hsub] at RU
  have w2 : IntKind.i64.wrap ((s.length : Int) - 2) = (s.length : Int) - 2 := IntWalk.i64_in _ (by omega)
  have z1 : ¬ 9223372036854775807 < s.length + 2 := by omega
  have z2 : ¬ 9223372036854775807 < s.length + 1 + 1 := by omega
  clear hp hsl x2 x3 x4 hsub hA hW
  go_enter Tryz.func42, Tryz.ntmps42
  go_wp2_with fail
  refine PL.mono ?_
  rintro e w1 ⟨rfl, p1⟩
  have PF1 := PF w1 p1
  clear PF PL
  go_wp2_with fail
  refine (RU _).mono ?_
  rintro e w2 ⟨rfl, rfl⟩
  go_wp2_with fail
  refine PF1.mono ?_
  rintro e w2 ⟨he, p2⟩
  rcases he with rfl | ⟨te, pe, rfl⟩
  all_goals
    go_wp2
    go_ret
    exact ⟨rfl, p1.trans p2⟩
set_option maxRecDepth 100000 in
set_option maxHeartbeats 8000000 in
theorem number_dec {Hi Lo T : Nat → Nat} {l s : List UInt8} {x : Nat} {b : Bool} {w : World} (hl : l.length ≤ 1000000) (hp : plain l = some s) (hx : decimal s = true) (hA : AD Hi Lo T s x b) (hW : NW Hi Lo T w) :
    Calls Tryz.prog 42 #[.string ⟨l.toArray⟩] w fun e w' => e = .returned (.float .f64 x) ∧ Pur w w' := by
  have PL := plain_any l w (by omega)
  have hsl := plain_len hp
  have PF : ∀ w', Pur w w' → _ := fun w' h => pf_any hA (by omega) (hW.pur h)
  rw [hp] at PL
  unfold PlainPost at PL
  obtain ⟨-, -, -, -, h0, hd, hnx⟩ := dec_whole hx
  have DE := fun w => decimal_any s w (by omega)
  rw [hx] at DE
  have x6 : (0 : Int) < s.length := by omega
  have hne : ¬ s = [] := by intro e; rw [e] at h0; simp at h0
  have hne2 : s.isEmpty = false := by cases s with | nil => exact absurd rfl hne | cons _ _ => rfl
  have hb1 := by8_lt s 1
  have ho := u8_or_nat (by8 s 1) 32 hb1 (by decide)
  rw [show ((32 : Nat) : Int) = 32 from rfl] at ho
  have d1 : ((by8 s 0 : Int) == 43) = false := by rw [beq_eq_false_iff_ne]; have := hd 43 (by simp); omega
  have d2 : ((by8 s 0 : Int) == 45) = false := by rw [beq_eq_false_iff_ne]; have := hd 45 (by simp); omega
  have hinf : (s == [73, 110, 102, 105, 110, 105, 116, 121]) = false := by
    rw [beq_eq_false_iff_ne]; intro e
    exact hd 73 (by simp) (by rw [e]; rfl)
  have hinf2 : ¬ s = [73, 110, 102, 105, 110, 105, 116, 121] := by simpa using hinf
  obtain ⟨o, hO⟩ : ∃ o, (by8 s 1 ||| 32) = o := ⟨_, rfl⟩
  rw [hO] at ho hnx
  clear hp hsl hx hA hW hd hO
  rcases t1 : decide ((2 : Int) < (s.length : Int)) with _ | _ <;> rcases t2 : ((by8 s 0 : Int) == 48) with _ | _ <;> rcases t3 : ((o : Int) == 120) with _ | _
  all_goals
    first
      | (exfalso; apply hnx; rw [beq_iff_eq] at t2 t3; omega)
      | (skip
         first
           | (have x1 : (1 : Int) < s.length := by rw [decide_eq_true_eq] at t1; omega)
           | skip
         clear hnx
         go_enter Tryz.func42, Tryz.ntmps42
         go_wp2_with fail
         refine PL.mono ?_
         rintro e w1 ⟨rfl, p1⟩
         have PF1 := PF w1 p1
         clear PF PL
         go_wp2_with fail
         refine (DE _).mono ?_
         rintro e w2 ⟨rfl, rfl⟩
         go_wp2_with fail
         refine PF1.mono ?_
         rintro e w2 ⟨he, p2⟩
         rcases he with rfl | ⟨te, pe, rfl⟩
         all_goals
           go_wp2
           go_ret
           exact ⟨rfl, p1.trans p2⟩)
end Nm
end Go.Proofs.YtapgibcdbggpkaaGreatDoor
namespace Go.Proofs.YtapgibcdbggpkaaGreatDoor
open Go Go.RowKit
set_option linter.all false
namespace Nm
open Us (FW AD)
/-- where the number behind a sign begins -/
def sgnAt (s : List UInt8) : Nat := if by8 s 0 = 43 ∨ by8 s 0 = 45 then 1 else 0
def body (s : List UInt8) : List UInt8 := sub s (sgnAt s) s.length
/-- is it a number? -/
def isNum (s : List UInt8) : Bool := (body s == infW) || decimal (body s)
set_option maxRecDepth 100000 in
theorem mnan_any2 (w : World) : Calls Tryz.prog 64 #[] w fun e w' => e = .returned (.float .f64 9221120237041090561) ∧ w = w' := by
  have h6 := @run_callFunc_extern Tryz.prog 85 _ Go.Extern.MathFloatBits.float64frombits Tryz.func85 (by kernel_rfl) (by kernel_rfl) (by kernel_rfl) (by kernel_rfl)
  have fb : ∀ (n : Int) (w : World), (Go.Extern.MathFloatBits.float64frombits #[.int .u64 n]).run Tryz.prog w = .ok (.float .f64 n.toNat) w := fun n w => rfl
  go_enter Tryz.func64, Tryz.ntmps64
  go_wp2
  go_ret
  exact ⟨rfl, rfl⟩
set_option maxRecDepth 100000 in
set_option maxHeartbeats 16000000 in
theorem number_rest {Hi Lo T : Nat → Nat} {l s : List UInt8} {x : Nat} {w : World} (hl : l.length ≤ 1000000) (hp : plain l = some s) (h0 : 0 < s.length) (hx : isHex s = false) (hyes : isNum s = true → ∃ b, AD Hi Lo T s x b) (hno : isNum s = false → x = 9221120237041090561) (hW : NW Hi Lo T w) :
    Calls Tryz.prog 42 #[.string ⟨l.toArray⟩] w fun e w' => e = .returned (.float .f64 x) ∧ Pur w w' := by
  have PL := plain_any l w (by omega)
  have hsl := plain_len hp
  have hsl2 : s.length ≤ 1000000 := by omega
  have PF : isNum s = true → ∀ w', Pur w w' → _ := fun hy w' h => pf_any (hyes hy).choose_spec (by omega) (hW.pur h)
  rw [hp] at PL
  unfold PlainPost at PL
  have x6 : (0 : Int) < s.length := by omega
  have x7 : (1 : Int) ≤ s.length := by omega
  have hne : ¬ s = [] := by intro e; rw [e] at h0; simp at h0
  have hne2 : s.isEmpty = false := by cases s with | nil => exact absurd rfl hne | cons _ _ => rfl
  have hb1 := by8_lt s 1
  have ho := u8_or_nat (by8 s 1) 32 hb1 (by decide)
  rw [show ((32 : Nat) : Int) = 32 from rfl] at ho
  have h120 : (by8 s 1 ||| 32) = 120 → by8 s 1 = 120 ∨ by8 s 1 = 88 := by
    have hall : ∀ n, n < 256 → (n ||| 32) = 120 → n = 120 ∨ n = 88 := by decide +kernel
    exact hall _ hb1
  have hsub2 : 2 < s.length → sub s 2 s.length = s.drop 2 := fun h => by unfold sub; rw [List.take_of_length_le (by rw [List.length_drop]; omega)]
  have RU := fun w => run_any (sub s 2 s.length) hexes w (by unfold sub; rw [List.length_take]; omega)
  have DE := fun w => decimal_any (body s) w (by unfold body sub; rw [List.length_take]; omega)
  have hnum : isNum s = ((body s == [73, 110, 102, 105, 110, 105, 116, 121]) || decimal (body s)) := rfl
  have hbody : body s = sub s (sgnAt s) s.length := rfl
  have hsg : sgnAt s = if by8 s 0 = 43 ∨ by8 s 0 = 45 then 1 else 0 := rfl
  generalize body s = B at *
  generalize sgnAt s = st at *
  have hsA : sub s 0 s.length = s := sub_all s (Nat.le_refl _)
  clear hp hsl hyes hW
  go_enter Tryz.func42, Tryz.ntmps42
  go_wp2_with fail
  refine PL.mono ?_
  rintro e w1 ⟨rfl, p1⟩
  have PF1 := fun hy => PF hy w1 p1
  clear PF PL
  go_upto_region 6 with (fail)
  go_cut [42] from 20 to 42 (fun v wx => v = .bool false ∧ wx = w1)
  case first =>
    clear PF1 DE hnum hno hbody hsg
    unfold isHex at hx
    rw [decide_eq_false_iff_not] at hx
    rcases t1 : decide ((2 : Int) < (s.length : Int)) with _ | _
    · clear hx RU
      go_wp2
      go_meet
      exact ⟨rfl, rfl⟩
    rcases t2 : ((by8 s 0 : Int) == 48) with _ | _
    · clear hx RU
      go_wp2
      go_meet
      exact ⟨rfl, rfl⟩
    have x1 : (2 : Int) < s.length := by simpa using t1
    have x5 : (1 : Int) < s.length := by omega
    obtain ⟨o, hO⟩ : ∃ o, (by8 s 1 ||| 32) = o := ⟨_, rfl⟩
    rw [hO] at ho h120
    rcases t3 : ((o : Int) == 120) with _ | _
    · clear hx RU h120 hO
      go_wp2
      go_meet
      exact ⟨rfl, rfl⟩
    obtain rfl : o = 120 := by rw [beq_iff_eq] at t3; omega
    have t4 : ((runGo hexes (sub s 2 s.length) : Int) == (s.length : Int) - 2) = false := by
      rw [beq_eq_false_iff_ne]
      intro e
      rw [beq_iff_eq] at t2
      exact hx ⟨by omega, by omega, h120 rfl, by rw [← hsub2 (by omega)]; omega⟩
    have w2 : IntKind.i64.wrap ((s.length : Int) - 2) = (s.length : Int) - 2 := IntWalk.i64_in _ (by omega)
    generalize runGo hexes (sub s 2 s.length) = rg at *
    clear hx h120 hO
    go_wp2_with fail
    refine (RU _).mono ?_
    rintro e w2 ⟨rfl, rfl⟩
    go_wp2
    go_meet
    exact ⟨rfl, rfl⟩
  case rest =>
  obtain ⟨rfl, rfl⟩ := hcut
  clear RU h120 hx
  go_upto_region 10 with (fail)
  obtain ⟨z, hz⟩ : ∃ z, (((by8 s 0 : Int) == 43) || ((by8 s 0 : Int) == 45)) = z := ⟨_, rfl⟩
  go_cut [58] from 51 to 58 (fun v wx => v = .bool z ∧ wx = wc)
  case first =>
    clear PF1 DE hnum hno hbody hsg
    rcases t1 : ((by8 s 0 : Int) == 43) with _ | _ <;> rcases t2 : ((by8 s 0 : Int) == 45) with _ | _
    all_goals
      rw [t1, t2] at hz
      subst hz
      go_wp2
      go_meet
      exact ⟨rfl, rfl⟩
  case rest =>
  obtain ⟨rfl, rfl⟩ := hcut
  go_upto_if 58 with (fail)
  go_cut [7] from 59 to 60 (fun v wx => v = .string ⟨B.toArray⟩ ∧ wx = wc)
  case first =>
    clear PF1 DE hnum hno
    cases z with
    | true =>
      have hs1 : st = 1 := by
        rw [hsg, if_pos]
        rw [Bool.or_eq_true, beq_iff_eq, beq_iff_eq] at hz
        omega
      have HB := Lib.hid (show B = sub s 1 s.length by rw [hbody, hs1])
      clear hbody hsg hz hs1
      go_wp2
      go_meet
      exact ⟨by rw [HB.out], rfl⟩
    | false =>
      have hs1 : st = 0 := by
        rw [hsg, if_neg]
        rw [Bool.or_eq_false_iff, beq_eq_false_iff_ne, beq_eq_false_iff_ne] at hz
        omega
      have HB := Lib.hid (show B = s by rw [hbody, hs1, hsA])
      clear hbody hsg hz hs1
      go_wp2
      go_meet
      exact ⟨by rw [HB.out], rfl⟩
  case rest =>
  obtain ⟨rfl, rfl⟩ := hcut
  clear hbody hsg hz
  rcases hinf : (B == [73, 110, 102, 105, 110, 105, 116, 121]) with _ | _
  · rw [hinf, Bool.false_or] at hnum
    rw [← hnum] at DE
    have hinf2 : ¬ B = [73, 110, 102, 105, 110, 105, 116, 121] := by simpa using hinf
    rcases hy : isNum s with _ | _
    · rw [hy] at DE hno
      have hxn := Lib.hid (hno rfl)
      have NA := fun w => mnan_any2 w
      clear PF1 hno hnum hy
      go_wp2_with fail
      refine (DE _).mono ?_
      rintro e w2 ⟨rfl, rfl⟩
      go_wp2_with fail
      refine (NA _).mono ?_
      rintro e w2 ⟨rfl, rfl⟩
      go_wp2
      go_ret
      exact ⟨by rw [hxn.out]; rfl, p1⟩
    · rw [hy] at DE
      have PF1 := PF1 hy
      clear hno hnum hy
      go_wp2_with fail
      refine (DE _).mono ?_
      rintro e w2 ⟨rfl, rfl⟩
      go_wp2_with fail
      refine PF1.mono ?_
      rintro e w2 ⟨he, p2⟩
      rcases he with rfl | ⟨te, pe, rfl⟩
      all_goals
        go_wp2
        go_ret
        exact ⟨rfl, p1.trans p2⟩
  · rw [hinf, Bool.true_or] at hnum
    have PF1 := PF1 hnum
    have hinf2 : B = [73, 110, 102, 105, 110, 105, 116, 121] := by simpa using hinf
    clear hno hnum DE
    go_wp2_with fail
    refine PF1.mono ?_
    rintro e w2 ⟨he, p2⟩
    rcases he with rfl | ⟨te, pe, rfl⟩
    all_goals
      go_wp2
      go_ret
      exact ⟨rfl, p1.trans p2⟩
end Nm
end Go.Proofs.YtapgibcdbggpkaaGreatDoor
namespace Go.Proofs.YtapgibcdbggpkaaGreatDoor
open Go Go.RowKit
set_option linter.all false
namespace Nm
open Us (FW AD)
/-- Infinity, with a sign or without: what special says -/
theorem pre_inf2 (w : World) :
    Calls Tryz.prog 194 #[.string ⟨#[73, 110, 102, 105, 110, 105, 116, 121]⟩, .string ⟨#[105, 110, 102, 105, 110, 105, 116, 121]⟩] w fun e w' => e = .returned (.int .i64 8) ∧ w = w' := by
  obtain ⟨l, hl⟩ : ∃ l : List UInt8, [73, 110, 102, 105, 110, 105, 116, 121] = l := ⟨_, rfl⟩
  obtain ⟨p, hp⟩ : ∃ p : List UInt8, [105, 110, 102, 105, 110, 105, 116, 121] = p := ⟨_, rfl⟩
  have hll : l.length = 8 := by rw [← hl]; rfl
  have hpl : p.length = 8 := by rw [← hp]; rfl
  have b0 : by8 l 0 = 73 := by rw [← hl]; rfl
  have c0 : by8 p 0 = 105 := by rw [← hp]; rfl
  have bn : ∀ n, n < 8 → 0 < n → by8 l n = by8 p n ∧ 97 ≤ by8 l n ∧ by8 l n < 128 := by
    rw [← hl, ← hp]; decide
  show Calls Tryz.prog 194 #[.string ⟨([73, 110, 102, 105, 110, 105, 116, 121] : List UInt8).toArray⟩, .string ⟨([105, 110, 102, 105, 110, 105, 116, 121] : List UInt8).toArray⟩] w _
  rw [hl, hp]
  clear hl hp
  have hl1 : (l.length : Int) = 8 := by omega
  have hl2 : (p.length : Int) = 8 := by omega
  go_enter Tryz.func194, Tryz.ntmps194
  go_wp2
  go_loopw [6] (fun x wr => ∃ n : Nat, n ≤ 8 ∧ x = .int .i64 n ∧ w = wr) (fun x _ => 9 - (intOf x).toNat)
  case atStart => exact ⟨0, by omega, rfl, rfl⟩
  case round =>
    obtain ⟨n, hn, rfl, rfl⟩ := hrel
    by_cases hlt : n < 8
    · have a1 : (n : Int) < 8 := by omega
      by_cases hz : n = 0
      · subst hz
        clear bn
        go_wp2
        go_roundw
        case rel => exact ⟨1, by omega, rfl, trivial⟩
        case measure => simp [intOf]
      · obtain ⟨e1, e2, e3⟩ := bn n hlt (by omega)
        clear bn
        have d1 : decide ((by8 l n : Int) ≤ 90) = false := by rw [decide_eq_false_iff_not]; omega
        have d2 : ((by8 l n : Int) != (by8 p n : Int)) = false := by rw [bne_eq_false_iff_eq, e1]
        have d3 : decide ((65 : Int) ≤ (by8 l n : Int)) = true := by rw [decide_eq_true_eq]; omega
        clear e1
        go_wp2
        go_roundw
        case rel => exact ⟨n + 1, by omega, by go_num, trivial⟩
        case measure => simp [intOf]; omega
    · obtain rfl : n = 8 := by omega
      clear bn
      go_wp2
      go_ret
      exact ⟨rfl, rfl⟩
set_option maxRecDepth 100000 in
theorem special_inf0 (w : World) :
    Calls Tryz.prog 158 #[.string ⟨infW.toArray⟩] w fun e w' => e = .returned (.tuple #[.float .f64 9218868437227405312, .int .i64 8, .bool true]) ∧ w = w' := by
  have h6 := @run_callFunc_extern Tryz.prog 168 _ Go.Extern.MathFloatBits.float64frombits Tryz.func168 (by kernel_rfl) (by kernel_rfl) (by kernel_rfl) (by kernel_rfl)
  have fb : ∀ (n : Int) (w : World), (Go.Extern.MathFloatBits.float64frombits #[.int .u64 n]).run Tryz.prog w = .ok (.float .f64 n.toNat) w := fun n w => rfl
  have PN := fun w => pre_inf2 w
  have IP : ∀ w, Calls Tryz.prog 195 #[.int .i64 1] w fun e w' => e = .returned (.float .f64 9218868437227405312) ∧ w = w' := fun w => by
    go_enter Tryz.func195, Tryz.ntmps195
    go_wp2
    go_ret
    exact ⟨rfl, rfl⟩
  have hsub : ∃ l : List UInt8, infW = l ∧ ¬ l = [] ∧ (l.length : Int) = 8 ∧ by8 l 0 = 73 ∧ l = [73, 110, 102, 105, 110, 105, 116, 121] := ⟨_, rfl, by decide, rfl, rfl, rfl⟩
  obtain ⟨l, hl, hne, hlen, hb, hL⟩ := hsub
  have PN2 : ∀ w, Calls Tryz.prog 194 #[.string ⟨l.toArray⟩, .string ⟨#[105, 110, 102, 105, 110, 105, 116, 121]⟩] w fun e w' => e = .returned (.int .i64 8) ∧ w = w' := by rw [hL]; exact PN
  rw [hl]
  clear hl hL PN
  have d0 : ((l.length : Int) == 0) = false := by rw [hlen]; rfl
  have h0' : (0 : Int) < l.length := by omega
  have d1 : ((by8 l 0 : Int) == 43) = false := by rw [hb]; rfl
  have d2 : ((by8 l 0 : Int) == 45) = false := by rw [hb]; rfl
  have d3 : ((by8 l 0 : Int) == 105) = false := by rw [hb]; rfl
  have d4 : ((by8 l 0 : Int) == 73) = true := by rw [hb]; rfl
  go_enter Tryz.func158, Tryz.ntmps158
  go_wp2_with fail
  refine (PN2 _).mono ?_
  rintro e w1 ⟨rfl, rfl⟩
  go_wp2_with fail
  refine (IP _).mono ?_
  rintro e w1 ⟨rfl, rfl⟩
  go_wp2
  go_ret3
  exact ⟨rfl, rfl⟩
set_option maxRecDepth 100000 in
theorem special_inf1 (w : World) :
    Calls Tryz.prog 158 #[.string ⟨(43 :: infW).toArray⟩] w fun e w' => e = .returned (.tuple #[.float .f64 9218868437227405312, .int .i64 9, .bool true]) ∧ w = w' := by
  have h6 := @run_callFunc_extern Tryz.prog 168 _ Go.Extern.MathFloatBits.float64frombits Tryz.func168 (by kernel_rfl) (by kernel_rfl) (by kernel_rfl) (by kernel_rfl)
  have fb : ∀ (n : Int) (w : World), (Go.Extern.MathFloatBits.float64frombits #[.int .u64 n]).run Tryz.prog w = .ok (.float .f64 n.toNat) w := fun n w => rfl
  have PN := fun w => pre_inf2 w
  have IN : ∀ w, Calls Tryz.prog 195 #[.int .i64 (1)] w fun e w' => e = .returned (.float .f64 9218868437227405312) ∧ w = w' := fun w => by
    go_enter Tryz.func195, Tryz.ntmps195
    go_wp2
    go_ret
    exact ⟨rfl, rfl⟩
  have hsub : ∃ l : List UInt8, 43 :: infW = l ∧ ¬ l = [] ∧ (l.length : Int) = 9 ∧ by8 l 0 = 43 ∧ sub l 1 l.length = [73, 110, 102, 105, 110, 105, 116, 121] := ⟨_, rfl, by decide, rfl, rfl, rfl⟩
  obtain ⟨l, hl, hne, hlen, hb, hL⟩ := hsub
  rw [hl]
  clear hl
  have d0 : ((l.length : Int) == 0) = false := by rw [hlen]; rfl
  have h0' : (0 : Int) < l.length := by omega
  have h1' : (1 : Int) ≤ l.length := by omega
  have d1 : ((by8 l 0 : Int) == 43) = true := by rw [hb]; rfl
  have d2 : ((by8 l 0 : Int) == 45) = false := by rw [hb]; rfl
  clear hlen
  go_enter Tryz.func158, Tryz.ntmps158
  go_wp2_with fail
  refine (PN _).mono ?_
  rintro e w1 ⟨rfl, rfl⟩
  go_wp2_with fail
  refine (IN _).mono ?_
  rintro e w1 ⟨rfl, rfl⟩
  go_wp2
  go_ret3
  exact ⟨rfl, rfl⟩
set_option maxRecDepth 100000 in
theorem special_inf2 (w : World) :
    Calls Tryz.prog 158 #[.string ⟨(45 :: infW).toArray⟩] w fun e w' => e = .returned (.tuple #[.float .f64 18442240474082181120, .int .i64 9, .bool true]) ∧ w = w' := by
  have h6 := @run_callFunc_extern Tryz.prog 168 _ Go.Extern.MathFloatBits.float64frombits Tryz.func168 (by kernel_rfl) (by kernel_rfl) (by kernel_rfl) (by kernel_rfl)
  have fb : ∀ (n : Int) (w : World), (Go.Extern.MathFloatBits.float64frombits #[.int .u64 n]).run Tryz.prog w = .ok (.float .f64 n.toNat) w := fun n w => rfl
  have PN := fun w => pre_inf2 w
  have IN : ∀ w, Calls Tryz.prog 195 #[.int .i64 (-1)] w fun e w' => e = .returned (.float .f64 18442240474082181120) ∧ w = w' := fun w => by
    go_enter Tryz.func195, Tryz.ntmps195
    go_wp2
    go_ret
    exact ⟨rfl, rfl⟩
  have hsub : ∃ l : List UInt8, 45 :: infW = l ∧ ¬ l = [] ∧ (l.length : Int) = 9 ∧ by8 l 0 = 45 ∧ sub l 1 l.length = [73, 110, 102, 105, 110, 105, 116, 121] := ⟨_, rfl, by decide, rfl, rfl, rfl⟩
  obtain ⟨l, hl, hne, hlen, hb, hL⟩ := hsub
  rw [hl]
  clear hl
  have d0 : ((l.length : Int) == 0) = false := by rw [hlen]; rfl
  have h0' : (0 : Int) < l.length := by omega
  have h1' : (1 : Int) ≤ l.length := by omega
  have d1 : ((by8 l 0 : Int) == 43) = false := by rw [hb]; rfl
  have d2 : ((by8 l 0 : Int) == 45) = true := by rw [hb]; rfl
  clear hlen
  go_enter Tryz.func158, Tryz.ntmps158
  go_wp2_with fail
  refine (PN _).mono ?_
  rintro e w1 ⟨rfl, rfl⟩
  go_wp2_with fail
  refine (IN _).mono ?_
  rintro e w1 ⟨rfl, rfl⟩
  go_wp2
  go_ret3
  exact ⟨rfl, rfl⟩
set_option maxRecDepth 100000 in
theorem ad_of_special {Hi Lo T : Nat → Nat} {l : List UInt8} {x : Nat} (SP : ∀ w, Calls Tryz.prog 158 #[.string ⟨l.toArray⟩] w fun e w' => e = .returned (.tuple #[.float .f64 x, .int .i64 (l.length : Int), .bool true]) ∧ w = w') : AD Hi Lo T l x false := by
  intro w hW
  clear hW
  go_enter Tryz.func130, Tryz.ntmps130
  go_wp2_with fail
  refine (SP _).mono ?_
  rintro e w1 ⟨rfl, rfl⟩
  go_wp2
  go_ret3
  exact ⟨rfl, Pur.refl _⟩
/-- what is a number is read -/
theorem num_ad (Hi Lo : Nat → Nat) {T : Nat → Nat} (hF : ∀ k, k < 23 → Fl.Fin (T k)) {s : List UInt8} (h : isNum s = true) (hl : s.length ≤ 100000) : ∃ x b, AD Hi Lo T s x b := by
  unfold isNum at h
  rw [Bool.or_eq_true, beq_iff_eq] at h
  cases s with
  | nil =>
    have e : body [] = [] := rfl
    rw [e] at h
    rcases h with h | h
    · cases h
    · exact absurd h (by decide)
  | cons c D =>
    by_cases hs : by8 (c :: D) 0 = 43 ∨ by8 (c :: D) 0 = 45
    · have e : body (c :: D) = D := by
        unfold body sgnAt sub
        rw [if_pos hs]
        simp
      have hc : c = 43 ∨ c = 45 := by
        have hb : by8 (c :: D) 0 = c.toNat := rfl
        rw [hb] at hs
        rcases hs with h | h
        · exact .inl (UInt8.toNat_inj.1 (by rw [h]; rfl))
        · exact .inr (UInt8.toNat_inj.1 (by rw [h]; rfl))
      rw [e] at h
      rcases h with h | h
      · subst h
        rcases hc with rfl | rfl
        · exact ⟨_, _, ad_of_special (fun w => special_inf1 w)⟩
        · exact ⟨_, _, ad_of_special (fun w => special_inf2 w)⟩
      · exact Us.dec_ad_sign Hi Lo hF hc h (by rw [List.length_cons] at hl; omega)
    · have e : body (c :: D) = c :: D := by
        unfold body sgnAt
        rw [if_neg hs]
        exact sub_all _ (Nat.le_refl _)
      rw [e] at h
      rcases h with h | h
      · rw [h]
        exact ⟨_, _, ad_of_special (fun w => special_inf0 w)⟩
      · exact Us.dec_ad_g Hi Lo hF h hl
set_option maxRecDepth 100000 in
set_option maxHeartbeats 4000000 in
/-- THE NUMBER OF EVERY WIDE TEXT -/
theorem number_all (Hi Lo : Nat → Nat) {T : Nat → Nat} (hF : ∀ k, k < 23 → Fl.Fin (T k)) (l : List UInt8) (hl : l.length ≤ 200000) :
    ∃ x, ∀ w, NW Hi Lo T w → Calls Tryz.prog 42 #[.string ⟨l.toArray⟩] w fun e w' => e = .returned (.float .f64 x) ∧ Pur w w' := by
  rcases hp : plain l with _ | s
  · refine ⟨9221120237041090561, fun w hW => ?_⟩
    have PL := plain_any l w (by omega)
    have NA := fun w => mnan_any2 w
    rw [hp] at PL
    unfold PlainPost at PL
    clear hW hp hF
    go_enter Tryz.func42, Tryz.ntmps42
    go_wp2_with fail
    refine PL.mono ?_
    rintro e w1 ⟨rfl, p1⟩
    go_wp2_with fail
    refine (NA _).mono ?_
    rintro e w2 ⟨rfl, rfl⟩
    go_wp2
    go_ret
    exact ⟨rfl, p1⟩
  · have hsl := plain_len hp
    by_cases h0 : 0 < s.length
    · cases hx : isHex s with
      | true =>
        obtain ⟨x, b, hA⟩ := Us.hex_ad (Hi := Hi) (Lo := Lo) (T := T) hx (by omega)
        exact ⟨x, fun w hW => number_hex2 (by omega) hp hx hA hW⟩
      | false =>
        cases hn : isNum s with
        | true =>
          obtain ⟨x, b, hA⟩ := num_ad Hi Lo hF hn (by omega)
          exact ⟨x, fun w hW => number_rest (by omega) hp h0 hx (fun _ => ⟨b, hA⟩) (fun h => by rw [hn] at h; cases h) hW⟩
        | false => exact ⟨9221120237041090561, fun w hW => number_rest (Hi := Hi) (Lo := Lo) (T := T) (by omega) hp h0 hx (fun h => by rw [hn] at h; cases h) (fun _ => rfl) hW⟩
    · obtain rfl : s = [] := by cases s with | nil => rfl | cons _ _ => simp at h0
      refine ⟨0, fun w hW => ?_⟩
      have PL := plain_any l w (by omega)
      rw [hp] at PL
      unfold PlainPost at PL
      clear hW hp hF
      go_enter Tryz.func42, Tryz.ntmps42
      go_wp2_with fail
      refine PL.mono ?_
      rintro e w1 ⟨rfl, p1⟩
      go_wp2
      go_ret
      exact ⟨rfl, p1⟩
end Nm
end Go.Proofs.YtapgibcdbggpkaaGreatDoor
