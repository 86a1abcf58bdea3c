/- The library's reading of a decimal number whose digits do not all fit, a sign ahead or not. A number's text behind one byte more (a sign): what is read of it is the same. The library's reading of every decimal number of layer 4, a sign ahead or not: it ends, and says one and the same. -/
import Derived.Test.YtapgibcdbggpkaaGreatDoorSgA
import Derived.Test.YtapgibcdbggpkaaGreatDoorNmP
import Derived.Test.YtapgibcdbggpkaaGreatDoorRf2
namespace Go.Proofs.YtapgibcdbggpkaaGreatDoor
open Go Go.RowKit
set_option linter.all false
namespace Us
theorem setDs_ok {l : List UInt8} (st : Nat) (hst : st ≤ l.length) (hm : (Rf.digs l false st).mant ≠ 0) (hl : l.length ≤ 1000000) (hW : Rf.Whole l false st) : Dc.Ok (Dc.setDs l st) ∧ -10000000 ≤ (Dc.setDs l st).dp ∧ (Dc.setDs l st).dp ≤ 10000000 := by
  have hsi := Dc.setGo_si l (l.length + 1) _ _ (Dc.SI.start_at st)
  have hg := Dc.setGo_go l (l.length + 1) (Rf.start st) Dc.zero
  have hdl := (Rf.go_inv l false (l.length + 1) (Rf.start st) (Rf.start_inv _ _)).2 hst
  unfold Rf.digs at hm
  rw [← hg] at hm hdl
  have hW2 := hW.2
  unfold Rf.digs at hW2
  rw [← hg] at hW2
  have hn : (Dc.setGo l (l.length + 1) (Rf.start st) Dc.zero).1.nd ≠ 0 := fun e => hm (hsi.m0 e)
  have hk := hsi.mk0
  have hx : -100010 ≤ Rf.exPart l (Dc.setGo l (l.length + 1) (Rf.start st) Dc.zero).1.i ∧ Rf.exPart l (Dc.setGo l (l.length + 1) (Rf.start st) Dc.zero).1.i ≤ 100010 := by
    unfold Rf.exPart
    split
    · rename_i hlt
      rcases hW2 with ⟨h, -⟩ | ⟨h1, h2, h3, h4⟩
      · omega
      · have hE := Rf.exGo_lt l (l.length + 1) (Rf.exAt l (Dc.setGo l (l.length + 1) (Rf.start st) Dc.zero).1.i) 0 (by omega) h4
        unfold Rf.exOf
        split <;> omega
    · omega
  refine ⟨⟨hsi.b, hk.2.1, hsi.v, ?_, hsi.d0 ?_⟩, ?_, ?_⟩
  · show 0 < (Dc.setGo l (l.length + 1) (Rf.start st) Dc.zero).2.nd
    omega
  · omega
  · show -10000000 ≤ (if (Dc.setGo l (l.length + 1) (Rf.start st) Dc.zero).1.dot then (Dc.setGo l (l.length + 1) (Rf.start st) Dc.zero).2.dp else ((Dc.setGo l (l.length + 1) (Rf.start st) Dc.zero).2.nd : Int)) + Rf.exPart l (Dc.setGo l (l.length + 1) (Rf.start st) Dc.zero).1.i
    have := hsi.dpl
    split <;> omega
  · show (if (Dc.setGo l (l.length + 1) (Rf.start st) Dc.zero).1.dot then (Dc.setGo l (l.length + 1) (Rf.start st) Dc.zero).2.dp else ((Dc.setGo l (l.length + 1) (Rf.start st) Dc.zero).2.nd : Int)) + Rf.exPart l (Dc.setGo l (l.length + 1) (Rf.start st) Dc.zero).1.i ≤ 10000000
    have := hsi.dph
    split <;> omega
set_option maxRecDepth 100000 in
set_option maxHeartbeats 16000000 in
theorem agrees_g {Hi Lo T : Nat → Nat} {l : List UInt8} {m : Nat} {p : Int} {ng : Bool} (hR : RDg l m p ng true) (SP : SPP l) (h0m : 0 < m) (hm : m + 1 < 18446744073709551616) (hp : -345 ≤ p) (hp2 : p ≤ 310) (hl : l.length ≤ 1000000)
    (hq : (FloatKind.f64.format.order (rdS ng Hi Lo m p).1 (rdS ng Hi Lo (m + 1) p).1 == some Ordering.eq) = true) : AD Hi Lo T l (rdS ng Hi Lo m p).1 (rdS ng Hi Lo m p).2 := by
  have h6 := @run_callFunc_extern Tryz.prog 168 _ Go.Extern.MathFloatBits.float64frombits Tryz.func168 (by kernel_rfl) (by kernel_rfl) (by kernel_rfl) (by kernel_rfl)
  have fb : ∀ (n : Int) (w : World), (Go.Extern.MathFloatBits.float64frombits #[.int .u64 n]).run Tryz.prog w = .ok (.float .f64 n.toNat) w := fun n w => rfl
  have BF := fun w => sign_up ng w
  unfold SPP at SP
  unfold RDg at hR
  have sx : IntKind.u64.wrap ((b2 ng : Int) * 9223372036854775808) = ((Dc.sg ng : Nat) : Int) := by cases ng <;> rfl
  have d1 : ((m : Int) == 0) = false := by rw [beq_eq_false_iff_ne]; omega
  have d2 : decide ((310 : Int) < p) = false := by rw [decide_eq_false_iff_not]; omega
  have d3 : decide (p < -345) = false := by rw [decide_eq_false_iff_not]; omega
  have a1 : IntKind.u64.wrap ((m : Int) + 1) = (m : Int) + 1 := IntWalk.u64_in _ (by omega)
  have PS := fun (w : World) (hW : FW Hi Lo T w) => parse_sign (w := w) ng m p hW.pt hW.lt (by omega) (by omega) (by omega) (by omega)
  have PT := fun (w : World) (hW : FW Hi Lo T w) => parse_sign (w := w) ng (m + 1) p hW.pt hW.lt (by omega) (by omega) (by omega) (by omega)
  simp only [show ((m + 1 : Nat) : Int) = (m : Int) + 1 from by omega] at PT
  generalize rdS ng Hi Lo m p = q at *
  generalize rdS ng Hi Lo (m + 1) p = q2 at *
  obtain ⟨S, hS⟩ : ∃ S, Dc.sg ng = S := ⟨_, rfl⟩
  rw [hS] at sx PS PT
  generalize b2 ng = B at *
  clear hS
  intro w hW
  generalize errV q.2 = ev at *
  generalize errV q2.2 = ev2 at *
  have co := hW.op
  have P1 := PS w hW
  have P2 := fun w' (hp : Pur w w') => PT w' (hW.pur hp)
  clear PS PT hm hp hp2 h0m hW
  go_enter Tryz.func130, Tryz.ntmps130
  go_wp2_with fail
  refine (SP _).mono ?_
  rintro e w1 ⟨rfl, rfl⟩
  go_wp2_with fail
  refine (hR _).mono ?_
  rintro e w1 ⟨rfl, rfl⟩
  go_wp2_with fail
  refine (BF _).mono ?_
  rintro e w1 ⟨rfl, rfl⟩
  go_wp2_with fail
  refine P1.mono ?_
  rintro e w1 ⟨rfl, p1⟩
  go_wp2_with fail
  refine (P2 _ p1).mono ?_
  rintro e w2 ⟨rfl, p2⟩
  go_wp2
  go_ret3
  exact ⟨rfl, p1.trans p2⟩
set_option maxRecDepth 100000 in
set_option maxHeartbeats 16000000 in
theorem slow_g {Hi Lo T : Nat → Nat} {l : List UInt8} {m st : Nat} {p : Int} {ng : Bool} (hR : RDg l m p ng true) (SP : SPP l) (hM : m = (Rf.digs l false st).mant) (hW0 : Rf.Whole l false st) (hU : ∀ i, by8 l i ≠ 95) (hg : Dc.Sgn l st ng) (h0m : 0 < m) (hm : m + 1 < 18446744073709551616) (hp : -345 ≤ p) (hp2 : p ≤ 310) (hl : l.length ≤ 1000000) (h0 : 0 < l.length)
    (hq : (FloatKind.f64.format.order (rdS ng Hi Lo m p).1 (rdS ng Hi Lo (m + 1) p).1 == some Ordering.eq) = false) : AD Hi Lo T l ((Dc.fbits (Dc.setDs l st)).1 + Dc.sg ng) (Dc.fbits (Dc.setDs l st)).2 := by
  have h6 := @run_callFunc_extern Tryz.prog 168 _ Go.Extern.MathFloatBits.float64frombits Tryz.func168 (by kernel_rfl) (by kernel_rfl) (by kernel_rfl) (by kernel_rfl)
  have fb : ∀ (n : Int) (w : World), (Go.Extern.MathFloatBits.float64frombits #[.int .u64 n]).run Tryz.prog w = .ok (.float .f64 n.toNat) w := fun n w => rfl
  have BF := fun w => sign_up ng w
  unfold SPP at SP
  unfold RDg at hR
  have sx : IntKind.u64.wrap ((b2 ng : Int) * 9223372036854775808) = ((Dc.sg ng : Nat) : Int) := by cases ng <;> rfl
  have d1 : ((m : Int) == 0) = false := by rw [beq_eq_false_iff_ne]; omega
  have d2 : decide ((310 : Int) < p) = false := by rw [decide_eq_false_iff_not]; omega
  have d3 : decide (p < -345) = false := by rw [decide_eq_false_iff_not]; omega
  have a1 : IntKind.u64.wrap ((m : Int) + 1) = (m : Int) + 1 := IntWalk.u64_in _ (by omega)
  have PS := fun (w : World) (hW : FW Hi Lo T w) => parse_sign (w := w) ng m p hW.pt hW.lt (by omega) (by omega) (by omega) (by omega)
  have PT := fun (w : World) (hW : FW Hi Lo T w) => parse_sign (w := w) ng (m + 1) p hW.pt hW.lt (by omega) (by omega) (by omega) (by omega)
  simp only [show ((m + 1 : Nat) : Int) = (m : Int) + 1 from by omega] at PT
  generalize rdS ng Hi Lo m p = q at *
  generalize rdS ng Hi Lo (m + 1) p = q2 at *
  generalize errV q.2 = ev at *
  generalize errV q2.2 = ev2 at *
  have hst : st ≤ l.length := by rcases hg with ⟨rfl, -⟩ | ⟨rfl, -⟩ <;> omega
  obtain ⟨ok, k1, k2⟩ := setDs_ok (l := l) st hst (by rw [← hM]; omega) hl hW0
  have SE := fun (w : World) (b : Nat) (h : Dc.DW false w b Dc.zero) => Dc.set_any (ng := ng) st h hl h0 hU hW0 hg
  rw [show (l.toArray = (sub l 0 l.length).toArray) by rw [sub_all l (Nat.le_refl _)]] at SE
  generalize Dc.setDs l st = X at *
  have BT := fun {w0 w : World} {b : Nat} (E : Dc.DE w0) (hp : Pur w0 w) (hb : w0.heap.size ≤ b) (h : Dc.DW ng w b X) => Dc.bits_any E hp hb h ok k1 k2
  obtain ⟨⟨fx, fo⟩, hf⟩ : ∃ r, Dc.fbits X = r := ⟨_, rfl⟩
  rw [hf] at BT ⊢
  simp only at BT ⊢
  obtain ⟨fs, hfs⟩ : ∃ fs, fx + Dc.sg ng = fs := ⟨_, rfl⟩
  rw [hfs] at BT ⊢
  obtain ⟨S, hS⟩ : ∃ S, Dc.sg ng = S := ⟨_, rfl⟩
  rw [hS] at sx PS PT
  generalize b2 ng = B at *
  intro w hW
  have co := hW.op
  have hDE := hW.de
  have P1 := PS w hW
  have P2 := fun w' (hp : Pur w w') => PT w' (hW.pur hp)
  clear PS PT hm hp hp2 h0m hW hM hU hW0 hg hfs hS hf
  go_enter Tryz.func130, Tryz.ntmps130
  go_wp2_with fail
  refine (SP _).mono ?_
  rintro e w1 ⟨rfl, rfl⟩
  go_wp2_with fail
  refine (hR _).mono ?_
  rintro e w1 ⟨rfl, rfl⟩
  go_wp2_with fail
  refine (BF _).mono ?_
  rintro e w1 ⟨rfl, rfl⟩
  go_wp2_with fail
  refine P1.mono ?_
  rintro e w1 ⟨rfl, p1⟩
  go_wp2_with fail
  refine (P2 _ p1).mono ?_
  rintro e w2 ⟨rfl, p2⟩
  clear P1 P2 SP hR BF
  have hz : Dc.DW false (w2.alloc (.cells Tryz.zeroCells199 199 (0, 0))) w2.heap.size Dc.zero := ⟨by rw [bk_new, zero_cells], Dc.SI.start.b⟩
  have SZ := SE _ _ hz
  have pz : Pur w (w2.alloc (.cells Tryz.zeroCells199 199 (0, 0))) := (p1.trans p2).alloc _
  have hb : w.heap.size ≤ w2.heap.size := (p1.trans p2).size
  clear SE hz
  go_wp2_with fail
  refine SZ.mono ?_
  rintro e w3 ⟨rfl, s1, s2⟩
  have p3 : Pur w w3 := Dc.pur_chg pz s2 hb
  have BB := BT hDE p3 hb s1
  clear SZ s1 BT
  go_wp2_with fail
  refine BB.mono ?_
  rintro e w4 ⟨rfl, s3⟩
  have p4 : Pur w w4 := Dc.pur_chg p3 s3 hb
  clear BB
  cases fo
  all_goals
    go_wp2
    go_ret3
    exact ⟨rfl, p4⟩
/-- every decimal number's reading: it ends, and says one and the same -/
theorem atof_g (Hi Lo : Nat → Nat) {T : Nat → Nat} (hF : ∀ k, k < 23 → Fl.Fin (T k)) {l : List UInt8} {m st : Nat} {p : Int} {ng tr : Bool} (hR : RDg l m p ng tr) (SP : SPP l) (hM : m = (Rf.digs l false st).mant) (hW0 : Rf.Whole l false st) (hU : ∀ i, by8 l i ≠ 95) (hg : Dc.Sgn l st ng)
    (hm : m + 1 < 18446744073709551616) (hp : -2000000 ≤ p) (hp2 : p ≤ 2000000) (hl : l.length ≤ 1000000) (h0 : 0 < l.length) : ∃ x b, AD Hi Lo T l x b := by
  by_cases he : m = 0 ∨ 310 < p ∨ p < -345
  · exact edge_g Hi Lo T hR SP (by omega) hp hp2 hl he
  · cases tr with
    | false => exact fits_g Hi Lo hF hR SP (by omega) (by omega) (by omega) (by omega) hl
    | true =>
      rcases hq : (FloatKind.f64.format.order (rdS ng Hi Lo m p).1 (rdS ng Hi Lo (m + 1) p).1 == some Ordering.eq) with _ | _
      · exact ⟨_, _, slow_g hR SP hM hW0 hU hg (by omega) hm (by omega) (by omega) hl h0 hq⟩
      · exact ⟨_, _, agrees_g hR SP (by omega) hm (by omega) (by omega) hl hq⟩
end Us
end Go.Proofs.YtapgibcdbggpkaaGreatDoor
namespace Go.Proofs.YtapgibcdbggpkaaGreatDoor
open Go Go.RowKit
set_option linter.all false
namespace Rf
/-- one place further -/
def up1 (s : Rs) : Rs := { s with i := s.i + 1 }
theorem step_up (hex : Bool) (c : Nat) (s : Rs) : step hex c (up1 s) = (step hex c s).map up1 := by
  have hp : ∀ d z, put hex d z (up1 s) = up1 (put hex d z s) := fun d z => by
    unfold put up1
    simp only
    split <;> rfl
  unfold step
  rw [show (up1 s).dot = s.dot from rfl, show (up1 s).nd = s.nd from rfl]
  split
  · split <;> rfl
  · split
    · split
      · rfl
      · rw [hp]; rfl
    · split
      · rw [hp]; rfl
      · rfl
theorem go_up (b : UInt8) (l : List UInt8) (hex : Bool) : ∀ f s, go (b :: l) hex f (up1 s) = up1 (go l hex f s)
  | 0, s => rfl
  | f + 1, s => by
    rw [go, go]
    rw [show (up1 s).i = s.i + 1 from rfl, List.length_cons, show by8 (b :: l) (s.i + 1) = by8 l s.i from rfl]
    by_cases h : s.i < l.length
    · rw [if_pos h, if_pos (by omega), step_up]
      cases step hex (by8 l s.i) s with
      | none => rfl
      | some t => exact go_up b l hex f t
    · rw [if_neg h, if_neg (by omega)]
theorem step_i {hex : Bool} {c : Nat} {s t : Rs} (h : step hex c s = some t) : t.i = s.i + 1 := by
  have hp : ∀ d z, (put hex d z s).i = s.i + 1 := fun d z => by unfold put; split <;> rfl
  unfold step at h
  split at h
  · split at h <;> cases h
    rfl
  · split at h
    · split at h <;> cases h
      · rfl
      · exact hp _ _
    · split at h <;> cases h
      exact hp _ _
/-- more fuel than there are bytes makes no difference -/
theorem go_more (l : List UInt8) (hex : Bool) : ∀ f s, l.length ≤ s.i + f → go l hex (f + 1) s = go l hex f s
  | 0, s, h => by
    rw [go, go, if_neg (by omega)]
  | f + 1, s, h => by
    rw [go]
    conv => rhs; rw [go]
    split
    · cases hs : step hex (by8 l s.i) s with
      | none => rfl
      | some t => exact go_more l hex f t (by have := step_i hs; omega)
    · rfl
theorem digs_up (b : UInt8) (l : List UInt8) (hex : Bool) : digs (b :: l) hex 1 = up1 (digs l hex 0) := by
  unfold digs
  rw [List.length_cons, show start 1 = up1 (start 0) from rfl, go_up, go_more l hex (l.length + 1) (start 0) (by show l.length ≤ 0 + _; omega)]
theorem exAt_up (b : UInt8) (l : List UInt8) (m : Nat) : exAt (b :: l) (m + 1) = exAt l m + 1 := by
  unfold exAt
  rw [show by8 (b :: l) (m + 1 + 1) = by8 l (m + 1) from rfl]
  split <;> omega
theorem isEx_up {b : UInt8} {l : List UInt8} {hex : Bool} {m : Nat} (h : IsEx l hex m) : IsEx (b :: l) hex (m + 1) := by
  obtain ⟨h1, h2, h3, h4⟩ := h
  refine ⟨by rw [List.length_cons]; omega, h2, by rw [exAt_up, List.length_cons]; omega, fun k hk hk2 => ?_⟩
  rw [exAt_up] at hk
  rw [List.length_cons] at hk2
  obtain ⟨j, rfl⟩ : ∃ j, k = j + 1 := ⟨k - 1, by omega⟩
  exact h4 j (by omega) (by omega)
theorem whole_up {b : UInt8} {l : List UInt8} {hex : Bool} (h : Whole l hex 0) : Whole (b :: l) hex 1 := by
  obtain ⟨h1, h2⟩ := h
  unfold Whole
  rw [digs_up]
  refine ⟨h1, ?_⟩
  rcases h2 with ⟨h2, h3⟩ | h2
  · exact .inl ⟨by rw [List.length_cons]; show (digs l hex 0).i + 1 = _; omega, h3⟩
  · exact .inr (isEx_up h2)
end Rf
end Go.Proofs.YtapgibcdbggpkaaGreatDoor
namespace Go.Proofs.YtapgibcdbggpkaaGreatDoor
open Go Go.RowKit
set_option linter.all false
namespace Us
theorem bounds_g (s : List UInt8) (st : Nat) (hst : st ≤ s.length) (hl : s.length ≤ 100001) (hW : Rf.Whole s false st) :
    (Rf.digs s false st).mant + 1 < 18446744073709551616 ∧ -2000000 ≤ Rf.pow s false st ∧ Rf.pow s false st ≤ 2000000 := by
  obtain ⟨inv, hil⟩ := Rf.go_inv s false (s.length + 1) (Rf.start st) (Rf.start_inv _ _)
  rw [show Rf.go s false (s.length + 1) (Rf.start st) = Rf.digs s false st from rfl] at inv hil
  have hil := hil hst
  have hm : (Rf.digs s false st).mant + 1 < 18446744073709551616 := by
    have h1 := inv.mant
    have h2 : Rf.bs false ^ (Rf.digs s false st).nm ≤ 10 ^ 19 := Nat.pow_le_pow_right (by decide) inv.nm
    have h3 : (10 : Nat) ^ 19 < 18446744073709551615 := by decide
    omega
  have hex : -100010 ≤ Rf.exPart s (Rf.digs s false st).i ∧ Rf.exPart s (Rf.digs s false st).i ≤ 100010 := by
    unfold Rf.exPart
    split
    · rename_i hlt
      rcases hW.2 with ⟨h, -⟩ | ⟨h1, h2, h3, h4⟩
      · omega
      · have hE := Rf.exGo_lt s (s.length + 1) (Rf.exAt s (Rf.digs s false st).i) 0 (by omega) h4
        unfold Rf.exOf
        split <;> omega
    · omega
  have hnm : (Rf.digs s false st).nm ≤ 19 := inv.nm
  refine ⟨hm, ?_⟩
  have hlo := inv.lo
  have hhi := inv.hi
  have hnd := inv.nd
  unfold Rf.pow
  simp only
  split
  · omega
  · unfold Rf.dpOf
    simp only [Bool.false_eq_true, if_false, Int.mul_one]
    split <;> omega
/-- the library's look for Inf and NaN behind a sign -/
theorem pre_no2 (D : List UInt8) (w : World) (h0 : 0 < D.length) (h1 : by8 D 0 ≤ 57) :
    Calls Tryz.prog 194 #[.string ⟨D.toArray⟩, .string ⟨#[105, 110, 102, 105, 110, 105, 116, 121]⟩] w fun e w' => e = .returned (.int .i64 0) ∧ w = w' := by
  have h0' : (0 : Int) < D.length := by omega
  have d1 : decide ((65 : Int) ≤ (by8 D 0 : Int)) = false := by rw [decide_eq_false_iff_not]; omega
  have d2 : ((by8 D 0 : Int) != (by8 [105, 110, 102, 105, 110, 105, 116, 121] 0 : Int)) = true := by
    rw [show by8 [105, 110, 102, 105, 110, 105, 116, 121] 0 = 105 from rfl, bne_iff_ne]; omega
  have hne : ¬ D = [] := by intro e; rw [e] at h0; simp at h0
  have m1 : (0 : Int) < min 8 (D.length : Int) := by omega
  go_enter Tryz.func194, Tryz.ntmps194
  go_wp2
  go_loopw [6] (fun x wr => x = .int .i64 0 ∧ w = wr) (fun _ _ => 0)
  case atStart => exact ⟨rfl, rfl⟩
  case round =>
    obtain ⟨rfl, rfl⟩ := hrel
    go_wp2
    go_ret
    exact ⟨rfl, rfl⟩
set_option maxRecDepth 100000 in
theorem special_sign {c : UInt8} (hc : c = 43 ∨ c = 45) (D : List UInt8) (h0 : 0 < D.length) (h1 : by8 D 0 ≤ 57) (hl : D.length ≤ 1000000) : SPP (c :: D) := by
  intro w
  have PN := fun w => pre_no2 D w h0 h1
  have h0' : (0 : Int) < (c :: D : List UInt8).length := by rw [List.length_cons]; omega
  have h2' : (1 : Int) ≤ (c :: D : List UInt8).length := by rw [List.length_cons]; omega
  have hb : by8 (c :: D) 0 = c.toNat := rfl
  have hsub : sub (c :: D) 1 (c :: D : List UInt8).length = D := by unfold sub; simp
  obtain ⟨l, hlq⟩ : ∃ l : List UInt8, c :: D = l := ⟨_, rfl⟩
  have hne : ¬ l = [] := by intro e; rw [e] at hlq; cases hlq
  rw [hlq] at h0' hb hsub h2' ⊢
  have d0 : ((l.length : Int) == 0) = false := by rw [beq_eq_false_iff_ne]; omega
  clear hlq h1 hl
  rcases hc with rfl | rfl
  · have d1 : ((by8 l 0 : Int) == 43) = true := by rw [hb]; rfl
    have d2 : ((by8 l 0 : Int) == 45) = false := by rw [hb]; rfl
    clear hb
    go_enter Tryz.func158, Tryz.ntmps158
    go_wp2_with fail
    refine (PN _).mono ?_
    rintro e w1 ⟨rfl, rfl⟩
    go_wp2
    go_ret3
    exact ⟨rfl, rfl⟩
  · have d1 : ((by8 l 0 : Int) == 43) = false := by rw [hb]; rfl
    have d2 : ((by8 l 0 : Int) == 45) = true := by rw [hb]; rfl
    clear hb
    go_enter Tryz.func158, Tryz.ntmps158
    go_wp2_with fail
    refine (PN _).mono ?_
    rintro e w1 ⟨rfl, rfl⟩
    go_wp2
    go_ret3
    exact ⟨rfl, rfl⟩
/-- every decimal number without a sign -/
theorem dec_ad_g (Hi Lo : Nat → Nat) {T : Nat → Nat} (hF : ∀ k, k < 23 → Fl.Fin (T k)) {s : List UInt8} (h : Nm.decimal s = true) (hl : s.length ≤ 100000) : ∃ x b, AD Hi Lo T s x b := by
  obtain ⟨hW, hH, hS, hU, h0, hd, -⟩ := Nm.dec_whole h
  have hf0 : Rf.from0 s = 0 := by unfold Rf.from0; rw [hS, hH]; rfl
  have hng : Rf.neg s = false := by unfold Rf.neg; rw [beq_eq_false_iff_ne]; exact hd 45 (by simp)
  have hR : RDg s (Rf.digs s false 0).mant (Rf.pow s false 0) false (Rf.digs s false 0).trunc := fun w => by
    refine (Rf.readFloat_dec s w (by omega) h0 hU (by rw [hS, hH, hf0]; exact hW) (by rw [hS]; exact hH)).mono ?_
    rintro e w' hp
    unfold Rf.RfPost at hp
    rw [hS, hH, hf0, hng] at hp
    exact hp
  obtain ⟨b1, b2, b3⟩ := bounds_g s 0 (Nat.zero_le _) (by omega) hW
  exact atof_g Hi Lo hF hR (fun w => Rf.special_no s w h0 (hd 43 (by simp)) (hd 45 (by simp)) (hd 105 (by simp)) (hd 73 (by simp)) (hd 110 (by simp)) (hd 78 (by simp))) rfl hW hU (.inl ⟨rfl, rfl, hd 43 (by simp), hd 45 (by simp)⟩) b1 b2 b3 (by omega) h0
/-- every decimal number behind a sign -/
theorem dec_ad_sign (Hi Lo : Nat → Nat) {T : Nat → Nat} (hF : ∀ k, k < 23 → Fl.Fin (T k)) {c : UInt8} (hc : c = 43 ∨ c = 45) {s : List UInt8} (h : Nm.decimal s = true) (hl : s.length ≤ 100000) : ∃ x b, AD Hi Lo T (c :: s) x b := by
  obtain ⟨hW, hH, hS, hU, h0, hd, hx⟩ := Nm.dec_whole h
  obtain ⟨-, -, -, -, -, -, -, hfirst, -⟩ := Nm.dec_shape h
  have hf57 : by8 s 0 ≤ 57 := by
    rcases hfirst with g | g
    · simp only [Rf.digC, Bool.and_eq_true, decide_eq_true_eq] at g; omega
    · omega
  have hb0 : by8 (c :: s) 0 = c.toNat := rfl
  have hcn : c.toNat = 43 ∨ c.toNat = 45 := by rcases hc with rfl | rfl <;> simp
  have hsg : Rf.sgn (c :: s) = 1 := by unfold Rf.sgn; rw [hb0, if_pos hcn]
  have hhx : Rf.hexAt (c :: s) 1 = false := by
    unfold Rf.hexAt
    rw [show by8 (c :: s) 1 = by8 s 0 from rfl, show by8 (c :: s) (1 + 1) = by8 s 1 from rfl]
    cases e1 : (by8 s 0 == 48) with
    | false => simp
    | true =>
      cases e2 : (by8 s 1 ||| 32 == 120) with
      | false => simp
      | true => exact absurd ⟨by simpa using e1, by simpa using e2⟩ hx
  have hf : Rf.from0 (c :: s) = 1 := by unfold Rf.from0; rw [hsg, hhx]; rfl
  have hU' : ∀ i, by8 (c :: s) i ≠ 95 := fun i => by
    cases i with
    | zero => rw [hb0]; omega
    | succ k => exact hU k
  have hlen : (c :: s).length = s.length + 1 := List.length_cons
  have hW1 : Rf.Whole (c :: s) false 1 := Rf.whole_up hW
  have hR : RDg (c :: s) (Rf.digs (c :: s) false 1).mant (Rf.pow (c :: s) false 1) (Rf.neg (c :: s)) (Rf.digs (c :: s) false 1).trunc := fun w => by
    refine (Rf.readFloat_dec (c :: s) w (by omega) (by omega) hU' (by rw [hsg, hhx, hf]; exact hW1) (by rw [hsg]; exact hhx)).mono ?_
    rintro e w' hp
    unfold Rf.RfPost at hp
    rw [hsg, hhx, hf] at hp
    exact hp
  obtain ⟨b1, b2, b3⟩ := bounds_g (c :: s) 1 (by omega) (by omega) hW1
  refine atof_g Hi Lo hF hR (special_sign hc s h0 hf57 (by omega)) rfl hW1 hU' (.inr ⟨rfl, ?_⟩) b1 b2 b3 (by omega) (by omega)
  unfold Rf.neg
  rw [hb0]
  rcases hc with rfl | rfl
  · exact .inl ⟨rfl, rfl⟩
  · exact .inr ⟨rfl, rfl⟩
end Us
end Go.Proofs.YtapgibcdbggpkaaGreatDoor
