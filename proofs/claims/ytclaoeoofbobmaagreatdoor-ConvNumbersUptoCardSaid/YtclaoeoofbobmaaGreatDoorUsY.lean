/- The library's reading of a decimal number whose digits all fit: it ends, and says one and the same. ParseFloat, where what atof64 says of a text is known. The library's reading of a decimal number whose digits do not all fit, where one more at its last place makes no difference. The library's reading of a decimal number at the edges: nought, too great, too small. The library's reading of a decimal number whose digits do not all fit, where one more at its last place makes a difference: the slow way. -/
import Derived.Test.YtclaoeoofbobmaaGreatDoorUs4
import Derived.Test.YtclaoeoofbobmaaGreatDoorRfX
import Derived.Test.YtclaoeoofbobmaaGreatDoorDcW
import Derived.Test.YtclaoeoofbobmaaGreatDoorShelf
namespace Go.Proofs.YtclaoeoofbobmaaGreatDoor
open Go Go.RowKit
set_option linter.all false
namespace Us
/-- the library's variables that a number's reading asks -/
structure FW (Hi Lo T : Nat → Nat) (w : World) : Prop where
  f : Rf.F64 w
  de : Dc.DE w
  pt : PT Hi Lo w
  ft : FT T w
  op : w.cell? ⟨7, 0, none⟩ = some (.bool true)
theorem FT.pur {T : Nat → Nat} {w w' : World} (h : FT T w) (hp : Pur w w') : FT T w' := by
  obtain ⟨g, o, c, h1, h2⟩ := h.sl
  exact ⟨g, o, c, cellp h1 hp, fun k hk => cellp (h2 k hk) hp⟩
theorem FW.pur {Hi Lo T : Nat → Nat} {w w' : World} (h : FW Hi Lo T w) (hp : Pur w w') : FW Hi Lo T w' := ⟨h.f.pur hp, h.de.pur hp, h.pt.pur hp, h.ft.pur hp, cellp h.op hp⟩
theorem FW.lt {Hi Lo T : Nat → Nat} {w : World} (h : FW Hi Lo T w) : 15 < w.heap.size := World.block_lt_of_cell? w _ (h.pt.hi 0 (by decide)).1
/-- what readFloat says of a decimal number without a sign -/
def RD (l : List UInt8) (m : Nat) (p : Int) (tr : Bool) : Prop :=
  ∀ w, Calls Tryz.prog 163 #[.string ⟨l.toArray⟩] w fun e w' => e = .returned (.tuple #[.int .u64 (m : Int), .int .i64 p, .bool false, .bool tr, .bool false, .int .i64 (l.length : Int), .bool true]) ∧ w = w'
/-- what atof64 says -/
def AD (Hi Lo T : Nat → Nat) (l : List UInt8) (x : Nat) (b : Bool) : Prop :=
  ∀ w, FW Hi Lo T w → Calls Tryz.prog 134 #[.string ⟨l.toArray⟩] w fun e w' => e = .returned (.tuple #[.float .f64 x, .int .i64 (l.length : Int), errV b]) ∧ Pur w w'
set_option maxRecDepth 100000 in
set_option maxHeartbeats 16000000 in
theorem atof_fits {Hi Lo T : Nat → Nat} (hF : ∀ k, k < 23 → Fl.Fin (T k)) {l : List UInt8} {m : Nat} {p : Int} (hR : RD l m p false) (hm : m < 18446744073709551616) (hp : -2000000 ≤ p) (hp2 : p ≤ 2000000) (hl : l.length ≤ 1000000) (h0 : 0 < l.length)
    (hd : ∀ c, c = 43 ∨ c = 45 ∨ c = 105 ∨ c = 73 ∨ c = 110 ∨ c = 78 → by8 l 0 ≠ c) : ∃ x b, AD Hi Lo T l x b := by
  have SP := fun w => Rf.special_no l w h0 (hd 43 (by simp)) (hd 45 (by simp)) (hd 105 (by simp)) (hd 73 (by simp)) (hd 110 (by simp)) (hd 78 (by simp))
  have h6 := @run_callFunc_extern Tryz.prog 172 _ Go.Extern.MathFloatBits.float64frombits Tryz.func172 (by kernel_rfl) (by kernel_rfl) (by kernel_rfl) (by kernel_rfl)
  have fb : ∀ (n : Int) (w : World), (Go.Extern.MathFloatBits.float64frombits #[.int .u64 n]).run Tryz.prog w = .ok (.float .f64 n.toNat) w := fun n w => rfl
  have BF : ∀ w, Calls Tryz.prog 171 #[.bool false] w fun e w' => e = .returned (.int .u64 0) ∧ w = w' := fun w => bool2_any false w
  have b0 : bits .or .u64 0 0 = 0 := by decide
  have b1 : bits .or .u64 0 9218868437227405312 = 9218868437227405312 := by decide
  unfold RD at hR
  by_cases z : m = 0
  · have d1 : ((m : Int) == 0) = true := by rw [beq_iff_eq]; omega
    refine ⟨0, false, fun w hW => ?_⟩
    have co := hW.op
    clear hF hW hd z hm
    go_enter Tryz.func134, Tryz.ntmps134
    go_wp2_with fail
    refine (SP _).mono ?_
    rintro e w1 ⟨rfl, rfl⟩
    go_wp2_with fail
    refine (hR _).mono ?_
    rintro e w1 ⟨rfl, rfl⟩
    go_wp2_with fail
    refine (BF _).mono ?_
    rintro e w1 ⟨rfl, rfl⟩
    go_wp2
    go_ret3
    exact ⟨rfl, Pur.refl _⟩
  have d1 : ((m : Int) == 0) = false := by rw [beq_eq_false_iff_ne]; omega
  by_cases g1 : 310 < p
  · have d2 : decide ((310 : Int) < p) = true := by rw [decide_eq_true_eq]; exact g1
    refine ⟨9218868437227405312, true, fun w hW => ?_⟩
    have co := hW.op
    clear hF hW hd z hm
    go_enter Tryz.func134, Tryz.ntmps134
    go_wp2_with fail
    refine (SP _).mono ?_
    rintro e w1 ⟨rfl, rfl⟩
    go_wp2_with fail
    refine (hR _).mono ?_
    rintro e w1 ⟨rfl, rfl⟩
    go_wp2_with fail
    refine (BF _).mono ?_
    rintro e w1 ⟨rfl, rfl⟩
    go_wp2
    go_ret3
    exact ⟨rfl, Pur.refl _⟩
  have d2 : decide ((310 : Int) < p) = false := by rw [decide_eq_false_iff_not]; exact g1
  by_cases g2 : p < -345
  · have d3 : decide (p < -345) = true := by rw [decide_eq_true_eq]; exact g2
    refine ⟨0, false, fun w hW => ?_⟩
    have co := hW.op
    clear hF hW hd z hm
    go_enter Tryz.func134, Tryz.ntmps134
    go_wp2_with fail
    refine (SP _).mono ?_
    rintro e w1 ⟨rfl, rfl⟩
    go_wp2_with fail
    refine (hR _).mono ?_
    rintro e w1 ⟨rfl, rfl⟩
    go_wp2_with fail
    refine (BF _).mono ?_
    rintro e w1 ⟨rfl, rfl⟩
    go_wp2
    go_ret3
    exact ⟨rfl, Pur.refl _⟩
  have d3 : decide (p < -345) = false := by rw [decide_eq_false_iff_not]; exact g2
  obtain ⟨x, ok, EX, -⟩ := exact_any T hF m p (by omega) (by omega)
  rcases ok with _ | _
  · refine ⟨(rd Hi Lo m p).1, (rd Hi Lo m p).2, fun w hW => ?_⟩
    have co := hW.op
    have E1 := EX w hW.ft hW.f
    have P1 := parse_any m p hW.pt hW.lt (by omega) hm (by omega) (by omega)
    generalize rd Hi Lo m p = q at *
    clear hF hW hd z hm EX
    go_enter Tryz.func134, Tryz.ntmps134
    go_wp2_with fail
    refine (SP _).mono ?_
    rintro e w1 ⟨rfl, rfl⟩
    go_wp2_with fail
    refine (hR _).mono ?_
    rintro e w1 ⟨rfl, rfl⟩
    go_wp2_with fail
    refine (BF _).mono ?_
    rintro e w1 ⟨rfl, rfl⟩
    go_wp2_with fail
    refine E1.mono ?_
    rintro e w1 ⟨rfl, rfl⟩
    go_wp2_with fail
    refine P1.mono ?_
    rintro e w1 ⟨rfl, p1⟩
    go_wp2
    go_ret3
    exact ⟨rfl, p1⟩
  · refine ⟨x, false, fun w hW => ?_⟩
    have co := hW.op
    have E1 := EX w hW.ft hW.f
    clear hF hW hd z hm EX
    go_enter Tryz.func134, Tryz.ntmps134
    go_wp2_with fail
    refine (SP _).mono ?_
    rintro e w1 ⟨rfl, rfl⟩
    go_wp2_with fail
    refine (hR _).mono ?_
    rintro e w1 ⟨rfl, rfl⟩
    go_wp2_with fail
    refine (BF _).mono ?_
    rintro e w1 ⟨rfl, rfl⟩
    go_wp2_with fail
    refine E1.mono ?_
    rintro e w1 ⟨rfl, rfl⟩
    go_wp2
    go_ret3
    exact ⟨rfl, Pur.refl _⟩
end Us
end Go.Proofs.YtclaoeoofbobmaaGreatDoor
namespace Go.Proofs.YtclaoeoofbobmaaGreatDoor
open Go Go.RowKit
set_option linter.all false
namespace Us
set_option maxRecDepth 100000 in
set_option maxHeartbeats 4000000 in
theorem prefix_any {Hi Lo T : Nat → Nat} {l : List UInt8} {x : Nat} {b : Bool} (hA : AD Hi Lo T l x b) (hl : l.length ≤ 1000000) {w : World} (hW : FW Hi Lo T w) :
    Calls Tryz.prog 90 #[.string ⟨l.toArray⟩, .int .i64 64] w fun e w' => e = .returned (.tuple #[.float .f64 x, errV b]) ∧ Pur w w' := by
  have A1 := hA w hW
  have P1 : Calls Tryz.prog 110 #[.string ⟨l.toArray⟩, .int .i64 64] w fun e w' => e = .returned (.tuple #[.float .f64 x, .int .i64 (l.length : Int), errV b]) ∧ Pur w w' := by
    clear hA hW
    generalize errV b = ev at *
    go_enter Tryz.func110, Tryz.ntmps110
    go_wp2_with fail
    refine A1.mono ?_
    rintro e w1 ⟨rfl, p1⟩
    go_wp2
    go_ret3
    exact ⟨rfl, p1⟩
  clear hA hW A1
  cases b with
  | false =>
    unfold errV at *
    simp only [if_neg, Bool.false_eq_true, if_false] at *
    go_enter Tryz.func90, Tryz.ntmps90
    go_wp2_with fail
    refine P1.mono ?_
    rintro e w1 ⟨rfl, p1⟩
    go_wp2
    go_ret2
    exact ⟨rfl, p1⟩
  | true =>
    unfold errV at *
    simp only [if_true] at *
    go_enter Tryz.func90, Tryz.ntmps90
    go_wp2_with fail
    refine P1.mono ?_
    rintro e w1 ⟨rfl, p1⟩
    go_wp2
    go_ret2
    exact ⟨rfl, p1⟩
set_option maxRecDepth 100000 in
set_option maxHeartbeats 4000000 in
theorem parse_ok {Hi Lo T : Nat → Nat} {l : List UInt8} {x : Nat} (hA : AD Hi Lo T l x false) (hl : l.length ≤ 1000000) {w : World} (hW : FW Hi Lo T w) :
    Calls Tryz.prog 63 #[.string ⟨l.toArray⟩, .int .i64 64] w fun e w' => e = .returned (.tuple #[.float .f64 x, .nilIface]) ∧ Pur w w' := by
  have I1 := prefix_any hA hl hW
  clear hA hW
  unfold errV at I1
  simp only [Bool.false_eq_true, if_false] at I1
  go_enter Tryz.func63, Tryz.ntmps63
  go_wp2_with fail
  refine I1.mono ?_
  rintro e w1 ⟨rfl, p1⟩
  go_wp2
  go_ret2
  exact ⟨rfl, p1⟩
set_option maxRecDepth 100000 in
set_option maxHeartbeats 4000000 in
theorem parse_range {Hi Lo T : Nat → Nat} {l : List UInt8} {x : Nat} (hA : AD Hi Lo T l x true) (hl : l.length ≤ 1000000) {ev : Value} {w : World} (hW : FW Hi Lo T w)
    (hv : w.cell? ⟨2, 0, none⟩ = some ev) (hev : ev = .nilIface ∨ ∃ te pe, ev = .iface te pe) :
    Calls Tryz.prog 63 #[.string ⟨l.toArray⟩, .int .i64 64] w fun e w' => (∃ te pe, e = .returned (.tuple #[.float .f64 x, .iface te pe])) ∧ Pur w w' := by
  have I1 := prefix_any hA hl hW
  clear hA hW
  unfold errV at I1
  simp only [if_true] at I1
  go_enter Tryz.func63, Tryz.ntmps63
  go_wp2_with fail
  refine I1.mono ?_
  rintro e w1 ⟨rfl, p1⟩
  have hv1 := cellp hv p1
  go_wp2_with fail
  refine (Tryz.strconv_toError_range _ _ _ _ ev _ ?_ hv1 hev).mono ?_
  · show l.length ≤ _
    omega
  rintro e w2 ⟨N0, rfl, h1, h2, h3⟩
  go_wp2
  go_ret2
  exact ⟨⟨_, _, rfl⟩, Pur.trans p1 h3⟩
end Us
end Go.Proofs.YtclaoeoofbobmaaGreatDoor
namespace Go.Proofs.YtclaoeoofbobmaaGreatDoor
open Go Go.RowKit
set_option linter.all false
namespace Us
set_option maxRecDepth 100000 in
set_option maxHeartbeats 16000000 in
theorem atof_agrees {Hi Lo T : Nat → Nat} {l : List UInt8} {m : Nat} {p : Int} (hR : RD l m p true) (h0m : 0 < m) (hm : m + 1 < 18446744073709551616) (hp : -345 ≤ p) (hp2 : p ≤ 310) (hl : l.length ≤ 1000000) (h0 : 0 < l.length)
    (hd : ∀ c, c = 43 ∨ c = 45 ∨ c = 105 ∨ c = 73 ∨ c = 110 ∨ c = 78 → by8 l 0 ≠ c)
    (hq : (FloatKind.f64.format.order (rd Hi Lo m p).1 (rd Hi Lo (m + 1) p).1 == some Ordering.eq) = true) : AD Hi Lo T l (rd Hi Lo m p).1 (rd Hi Lo m p).2 := by
  have SP := fun w => Rf.special_no l w h0 (hd 43 (by simp)) (hd 45 (by simp)) (hd 105 (by simp)) (hd 73 (by simp)) (hd 110 (by simp)) (hd 78 (by simp))
  have BF : ∀ w, Calls Tryz.prog 171 #[.bool false] w fun e w' => e = .returned (.int .u64 0) ∧ w = w' := fun w => bool2_any false w
  unfold RD at hR
  have d1 : ((m : Int) == 0) = false := by rw [beq_eq_false_iff_ne]; omega
  have d2 : decide ((310 : Int) < p) = false := by rw [decide_eq_false_iff_not]; omega
  have d3 : decide (p < -345) = false := by rw [decide_eq_false_iff_not]; omega
  have a1 : IntKind.u64.wrap ((m : Int) + 1) = (m : Int) + 1 := IntWalk.u64_in _ (by omega)
  intro w hW
  have co := hW.op
  have P1 := parse_any m p hW.pt hW.lt (by omega) (by omega) (by omega) (by omega)
  have P2 : ∀ w', Pur w w' → Calls Tryz.prog 174 #[.int .u64 ((m : Int) + 1), .int .i64 p, .int .u64 0] w' fun e w'' => e = .returned (.tuple #[.float .f64 (rd Hi Lo (m + 1) p).1, errV (rd Hi Lo (m + 1) p).2]) ∧ Pur w' w'' := by
    intro w' hp
    have h := parse_any (m + 1) p (hW.pur hp).pt (hW.pur hp).lt (by omega) hm (by omega) (by omega)
    rw [show ((m + 1 : Nat) : Int) = (m : Int) + 1 from by omega] at h
    exact h
  generalize rd Hi Lo m p = q at *
  generalize rd Hi Lo (m + 1) p = q2 at *
  generalize errV q.2 = ev at *
  generalize errV q2.2 = ev2 at *
  clear hd hm hp hp2 h0m hW
  go_enter Tryz.func134, Tryz.ntmps134
  go_wp2_with fail
  refine (SP _).mono ?_
  rintro e w1 ⟨rfl, rfl⟩
  go_wp2_with fail
  refine (hR _).mono ?_
  rintro e w1 ⟨rfl, rfl⟩
  go_wp2_with fail
  refine (BF _).mono ?_
  rintro e w1 ⟨rfl, rfl⟩
  go_wp2_with fail
  refine P1.mono ?_
  rintro e w1 ⟨rfl, p1⟩
  go_wp2_with fail
  refine (P2 _ p1).mono ?_
  rintro e w2 ⟨rfl, p2⟩
  go_wp2
  go_ret3
  exact ⟨rfl, p1.trans p2⟩
end Us
end Go.Proofs.YtclaoeoofbobmaaGreatDoor
namespace Go.Proofs.YtclaoeoofbobmaaGreatDoor
open Go Go.RowKit
set_option linter.all false
namespace Us
set_option maxRecDepth 100000 in
set_option maxHeartbeats 16000000 in
theorem atof_edge {Hi Lo T : Nat → Nat} {l : List UInt8} {m : Nat} {p : Int} {tr : Bool} (hR : RD l m p tr) (hm : m < 18446744073709551616) (hp : -2000000 ≤ p) (hp2 : p ≤ 2000000) (hl : l.length ≤ 1000000) (h0 : 0 < l.length)
    (hd : ∀ c, c = 43 ∨ c = 45 ∨ c = 105 ∨ c = 73 ∨ c = 110 ∨ c = 78 → by8 l 0 ≠ c) (he : m = 0 ∨ 310 < p ∨ p < -345) : ∃ x b, AD Hi Lo T l x b := by
  have SP := fun w => Rf.special_no l w h0 (hd 43 (by simp)) (hd 45 (by simp)) (hd 105 (by simp)) (hd 73 (by simp)) (hd 110 (by simp)) (hd 78 (by simp))
  have h6 := @run_callFunc_extern Tryz.prog 172 _ Go.Extern.MathFloatBits.float64frombits Tryz.func172 (by kernel_rfl) (by kernel_rfl) (by kernel_rfl) (by kernel_rfl)
  have fb : ∀ (n : Int) (w : World), (Go.Extern.MathFloatBits.float64frombits #[.int .u64 n]).run Tryz.prog w = .ok (.float .f64 n.toNat) w := fun n w => rfl
  have BF : ∀ w, Calls Tryz.prog 171 #[.bool false] w fun e w' => e = .returned (.int .u64 0) ∧ w = w' := fun w => bool2_any false w
  have b0 : bits .or .u64 0 0 = 0 := by decide
  have b1 : bits .or .u64 0 9218868437227405312 = 9218868437227405312 := by decide
  unfold RD at hR
  by_cases z : m = 0
  · have d1 : ((m : Int) == 0) = true := by rw [beq_iff_eq]; omega
    refine ⟨0, false, fun w hW => ?_⟩
    have co := hW.op
    clear hW hd z hm he
    go_enter Tryz.func134, Tryz.ntmps134
    go_wp2_with fail
    refine (SP _).mono ?_
    rintro e w1 ⟨rfl, rfl⟩
    go_wp2_with fail
    refine (hR _).mono ?_
    rintro e w1 ⟨rfl, rfl⟩
    go_wp2_with fail
    refine (BF _).mono ?_
    rintro e w1 ⟨rfl, rfl⟩
    go_wp2
    go_ret3
    exact ⟨rfl, Pur.refl _⟩
  have d1 : ((m : Int) == 0) = false := by rw [beq_eq_false_iff_ne]; omega
  by_cases g1 : 310 < p
  · have d2 : decide ((310 : Int) < p) = true := by rw [decide_eq_true_eq]; exact g1
    refine ⟨9218868437227405312, true, fun w hW => ?_⟩
    have co := hW.op
    clear hW hd z hm he
    go_enter Tryz.func134, Tryz.ntmps134
    go_wp2_with fail
    refine (SP _).mono ?_
    rintro e w1 ⟨rfl, rfl⟩
    go_wp2_with fail
    refine (hR _).mono ?_
    rintro e w1 ⟨rfl, rfl⟩
    go_wp2_with fail
    refine (BF _).mono ?_
    rintro e w1 ⟨rfl, rfl⟩
    go_wp2
    go_ret3
    exact ⟨rfl, Pur.refl _⟩
  have d2 : decide ((310 : Int) < p) = false := by rw [decide_eq_false_iff_not]; exact g1
  by_cases g2 : p < -345
  · have d3 : decide (p < -345) = true := by rw [decide_eq_true_eq]; exact g2
    refine ⟨0, false, fun w hW => ?_⟩
    have co := hW.op
    clear hW hd z hm he
    go_enter Tryz.func134, Tryz.ntmps134
    go_wp2_with fail
    refine (SP _).mono ?_
    rintro e w1 ⟨rfl, rfl⟩
    go_wp2_with fail
    refine (hR _).mono ?_
    rintro e w1 ⟨rfl, rfl⟩
    go_wp2_with fail
    refine (BF _).mono ?_
    rintro e w1 ⟨rfl, rfl⟩
    go_wp2
    go_ret3
    exact ⟨rfl, Pur.refl _⟩
  omega
/-- all of a decimal number's readings but the slow way -/
theorem atof_most {Hi Lo T : Nat → Nat} (hF : ∀ k, k < 23 → Fl.Fin (T k)) {l : List UInt8} {m : Nat} {p : Int} {tr : Bool} (hR : RD l m p tr) (hm : m + 1 < 18446744073709551616) (hp : -2000000 ≤ p) (hp2 : p ≤ 2000000) (hl : l.length ≤ 1000000) (h0 : 0 < l.length)
    (hd : ∀ c, c = 43 ∨ c = 45 ∨ c = 105 ∨ c = 73 ∨ c = 110 ∨ c = 78 → by8 l 0 ≠ c)
    (hq : tr = true → (FloatKind.f64.format.order (rd Hi Lo m p).1 (rd Hi Lo (m + 1) p).1 == some Ordering.eq) = true) : ∃ x b, AD Hi Lo T l x b := by
  by_cases he : m = 0 ∨ 310 < p ∨ p < -345
  · exact atof_edge hR (by omega) hp hp2 hl h0 hd he
  · cases tr with
    | false => exact atof_fits hF hR (by omega) hp hp2 hl h0 hd
    | true => exact ⟨_, _, atof_agrees hR (by omega) hm (by omega) (by omega) hl h0 hd (hq rfl)⟩
end Us
end Go.Proofs.YtclaoeoofbobmaaGreatDoor
namespace Go.Proofs.YtclaoeoofbobmaaGreatDoor
open Go Go.RowKit
set_option linter.all false
namespace Us
theorem setD_ok {l : List UInt8} (hm : (Rf.digs l false 0).mant ≠ 0) (hl : l.length ≤ 1000000) (hW : Rf.Whole l false 0) : Dc.Ok (Dc.setD l) ∧ -10000000 ≤ (Dc.setD l).dp ∧ (Dc.setD l).dp ≤ 10000000 := by
  have hsi := Dc.setGo_si l (l.length + 1) _ _ Dc.SI.start
  have hg := Dc.setGo_go l (l.length + 1) (Rf.start 0) Dc.zero
  have hdl := (Rf.go_inv l false (l.length + 1) (Rf.start 0) (Rf.start_inv _ _)).2 (Nat.zero_le _)
  unfold Rf.digs at hm
  rw [← hg] at hm hdl
  have hW2 := hW.2
  unfold Rf.digs at hW2
  rw [← hg] at hW2
  have hn : (Dc.setGo l (l.length + 1) (Rf.start 0) Dc.zero).1.nd ≠ 0 := fun e => hm (hsi.m0 e)
  have hk := hsi.mk0
  have hx : -100010 ≤ Rf.exPart l (Dc.setGo l (l.length + 1) (Rf.start 0) Dc.zero).1.i ∧ Rf.exPart l (Dc.setGo l (l.length + 1) (Rf.start 0) Dc.zero).1.i ≤ 100010 := by
    unfold Rf.exPart
    split
    · rename_i hlt
      rcases hW2 with ⟨h, -⟩ | ⟨h1, h2, h3, h4⟩
      · omega
      · have hE := Rf.exGo_lt l (l.length + 1) (Rf.exAt l (Dc.setGo l (l.length + 1) (Rf.start 0) Dc.zero).1.i) 0 (by omega) h4
        unfold Rf.exOf
        split <;> omega
    · omega
  refine ⟨⟨hsi.b, hk.2.1, hsi.v, ?_, hsi.d0 ?_⟩, ?_, ?_⟩
  · show 0 < (Dc.setGo l (l.length + 1) (Rf.start 0) Dc.zero).2.nd
    omega
  · omega
  · show -10000000 ≤ (if (Dc.setGo l (l.length + 1) (Rf.start 0) Dc.zero).1.dot then (Dc.setGo l (l.length + 1) (Rf.start 0) Dc.zero).2.dp else ((Dc.setGo l (l.length + 1) (Rf.start 0) Dc.zero).2.nd : Int)) + Rf.exPart l (Dc.setGo l (l.length + 1) (Rf.start 0) Dc.zero).1.i
    have := hsi.dpl
    split <;> omega
  · show (if (Dc.setGo l (l.length + 1) (Rf.start 0) Dc.zero).1.dot then (Dc.setGo l (l.length + 1) (Rf.start 0) Dc.zero).2.dp else ((Dc.setGo l (l.length + 1) (Rf.start 0) Dc.zero).2.nd : Int)) + Rf.exPart l (Dc.setGo l (l.length + 1) (Rf.start 0) Dc.zero).1.i ≤ 10000000
    have := hsi.dph
    split <;> omega
theorem zero_cells : Tryz.zeroCells201 = Dc.cel Dc.zero := by kernel_rfl
set_option maxRecDepth 100000 in
set_option maxHeartbeats 16000000 in
theorem atof_slow {Hi Lo T : Nat → Nat} {l : List UInt8} {m : Nat} {p : Int} (hR : RD l m p true) (hM : m = (Rf.digs l false 0).mant) (hW0 : Rf.Whole l false 0) (hU : ∀ i, by8 l i ≠ 95) (h0m : 0 < m) (hm : m + 1 < 18446744073709551616) (hp : -345 ≤ p) (hp2 : p ≤ 310) (hl : l.length ≤ 1000000) (h0 : 0 < l.length)
    (hd : ∀ c, c = 43 ∨ c = 45 ∨ c = 105 ∨ c = 73 ∨ c = 110 ∨ c = 78 → by8 l 0 ≠ c)
    (hq : (FloatKind.f64.format.order (rd Hi Lo m p).1 (rd Hi Lo (m + 1) p).1 == some Ordering.eq) = false) : AD Hi Lo T l (Dc.fbits (Dc.setD l)).1 (Dc.fbits (Dc.setD l)).2 := by
  have h6 := @run_callFunc_extern Tryz.prog 172 _ Go.Extern.MathFloatBits.float64frombits Tryz.func172 (by kernel_rfl) (by kernel_rfl) (by kernel_rfl) (by kernel_rfl)
  have fb : ∀ (n : Int) (w : World), (Go.Extern.MathFloatBits.float64frombits #[.int .u64 n]).run Tryz.prog w = .ok (.float .f64 n.toNat) w := fun n w => rfl
  have SP := fun w => Rf.special_no l w h0 (hd 43 (by simp)) (hd 45 (by simp)) (hd 105 (by simp)) (hd 73 (by simp)) (hd 110 (by simp)) (hd 78 (by simp))
  have BF : ∀ w, Calls Tryz.prog 171 #[.bool false] w fun e w' => e = .returned (.int .u64 0) ∧ w = w' := fun w => bool2_any false w
  unfold RD at hR
  have d1 : ((m : Int) == 0) = false := by rw [beq_eq_false_iff_ne]; omega
  have d2 : decide ((310 : Int) < p) = false := by rw [decide_eq_false_iff_not]; omega
  have d3 : decide (p < -345) = false := by rw [decide_eq_false_iff_not]; omega
  have a1 : IntKind.u64.wrap ((m : Int) + 1) = (m : Int) + 1 := IntWalk.u64_in _ (by omega)
  obtain ⟨ok, b1, b2⟩ := setD_ok (l := l) (by rw [← hM]; omega) hl hW0
  have SE := fun (w : World) (b : Nat) (h : Dc.DW w b Dc.zero) => Dc.set_any h hl h0 hU hW0 (hd 43 (by simp)) (hd 45 (by simp))
  rw [show (l.toArray = (sub l 0 l.length).toArray) by rw [sub_all l (Nat.le_refl _)]] at SE
  generalize Dc.setD l = X at *
  intro w hW
  have co := hW.op
  have P1 := parse_any m p hW.pt hW.lt (by omega) (by omega) (by omega) (by omega)
  have P2 : ∀ w', Pur w w' → Calls Tryz.prog 174 #[.int .u64 ((m : Int) + 1), .int .i64 p, .int .u64 0] w' fun e w'' => e = .returned (.tuple #[.float .f64 (rd Hi Lo (m + 1) p).1, errV (rd Hi Lo (m + 1) p).2]) ∧ Pur w' w'' := by
    intro w' hp
    have h := parse_any (m + 1) p (hW.pur hp).pt (hW.pur hp).lt (by omega) hm (by omega) (by omega)
    rw [show ((m + 1 : Nat) : Int) = (m : Int) + 1 from by omega] at h
    exact h
  generalize rd Hi Lo m p = q at *
  generalize rd Hi Lo (m + 1) p = q2 at *
  generalize errV q.2 = ev at *
  generalize errV q2.2 = ev2 at *
  have hDE := hW.de
  obtain ⟨⟨fx, fo⟩, hf⟩ : ∃ r, Dc.fbits X = r := ⟨_, rfl⟩
  rw [hf]
  clear hd hm hp hp2 h0m hW hM hU hW0
  go_enter Tryz.func134, Tryz.ntmps134
  go_wp2_with fail
  refine (SP _).mono ?_
  rintro e w1 ⟨rfl, rfl⟩
  go_wp2_with fail
  refine (hR _).mono ?_
  rintro e w1 ⟨rfl, rfl⟩
  go_wp2_with fail
  refine (BF _).mono ?_
  rintro e w1 ⟨rfl, rfl⟩
  go_wp2_with fail
  refine P1.mono ?_
  rintro e w1 ⟨rfl, p1⟩
  go_wp2_with fail
  refine (P2 _ p1).mono ?_
  rintro e w2 ⟨rfl, p2⟩
  clear P1 P2 SP hR BF
  have hz : Dc.DW (w2.alloc (.cells Tryz.zeroCells201 201 (0, 0))) w2.heap.size Dc.zero := ⟨by rw [bk_new, zero_cells], Dc.SI.start.b⟩
  have SZ := SE _ _ hz
  have pz : Pur w (w2.alloc (.cells Tryz.zeroCells201 201 (0, 0))) := (p1.trans p2).alloc _
  have hb : w.heap.size ≤ w2.heap.size := (p1.trans p2).size
  clear SE hz
  go_wp2_with fail
  refine SZ.mono ?_
  rintro e w3 ⟨rfl, s1, s2⟩
  have p3 : Pur w w3 := Dc.pur_chg pz s2 hb
  have BB := Dc.bits_any hDE p3 hb s1 ok b1 b2
  rw [hf] at BB
  clear SZ s1
  go_wp2_with fail
  refine BB.mono ?_
  rintro e w4 ⟨rfl, s3⟩
  have p4 : Pur w w4 := Dc.pur_chg p3 s3 hb
  clear BB
  cases fo
  all_goals
    go_wp2
    go_ret3
    exact ⟨rfl, p4⟩
end Us
end Go.Proofs.YtclaoeoofbobmaaGreatDoor
