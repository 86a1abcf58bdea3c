/- What layer 4 asks of the world. The first question of layer 4's laws. -/
import Derived.Test.YtciigfaojmpoiaaGreatDoorP10
import Derived.Test.YtciigfaojmpoiaaGreatDoorNmW
import Derived.Test.YtciigfaojmpoiaaGreatDoorFtD
import Derived.Test.YtciigfaojmpoiaaGreatDoorFtG
namespace Go.Proofs.YtciigfaojmpoiaaGreatDoor
open Go Go.RowKit
set_option linter.all false
open Lx (w16)
/-- what a decimal number reads as -/
theorem Us.dec_rd {s : List UInt8} (h : Nm.decimal s = true) (hl : s.length ≤ 100000) : Us.RD s (Rf.digs s false 0).mant (Rf.pow s false 0) (Rf.digs s false 0).trunc := fun w => by
  obtain ⟨hW, hH, hS, hU, h0, hd, -⟩ := Nm.dec_whole h
  have hf0 : Rf.from0 s = 0 := by unfold Rf.from0; rw [hS, hH]; rfl
  have hng : Rf.neg s = false := by unfold Rf.neg; rw [beq_eq_false_iff_ne]; exact hd 45 (by simp)
  refine (Rf.readFloat_dec s w (by omega) h0 hU (by rw [hS, hH, hf0]; exact hW) (by rw [hS]; exact hH)).mono ?_
  rintro e w' hp
  unfold Rf.RfPost at hp
  rw [hS, hH, hf0, hng] at hp
  exact hp
/-- a whole number's digits are read as that number -/
theorem Us.dec_int {Hi Lo T : Nat → Nat} {s : List UInt8} {m : Nat} (h : Nm.decimal s = true) (hl : s.length ≤ 100000) (hm : m < 4503599627370496) (e1 : (Rf.digs s false 0).mant = m) (e2 : Rf.pow s false 0 = 0) (e3 : (Rf.digs s false 0).trunc = false) : Us.AD Hi Lo T s (floatOfInt .f64 (m : Int)) false := by
  obtain ⟨hW, hH, hS, hU, h0, hd, -⟩ := Nm.dec_whole h
  have hs : ∀ x, Us.sg false x = x := fun x => rfl
  rw [← hs (floatOfInt .f64 (m : Int))]
  refine Us.atof_int (n := false) hm (fun w => Rf.special_no s w h0 (hd 43 (by simp)) (hd 45 (by simp)) (hd 105 (by simp)) (hd 73 (by simp)) (hd 110 (by simp)) (hd 78 (by simp))) ?_
  have := Us.dec_rd h hl
  rw [e1, e2, e3] at this
  exact this
namespace Ft
set_option maxRecDepth 100000 in
set_option maxHeartbeats 2000000 in
theorem of_any (l : List UInt8) (w : World) (hs : l.length ≤ 1000000) :
    Calls Tryz.prog 22 #[.string ⟨l.toArray⟩] w fun e w' => e = .returned (.string ⟨(w16 l).toArray⟩) ∧ Pur w w' := by
  have hsn : ∀ n, n < l.length → w16 (l.take (n + 1)) = w16 (l.take n) ++ unit8 (by8 l n) := by
    intro n hn
    rw [List.take_succ_eq_append_getElem hn]
    have e : unit8 (by8 l n) = [0, l[n]] := by
      unfold unit8 by8
      have hl := l[n].toNat_lt
      simp only [List.getD_eq_getElem?_getD, List.getElem?_eq_getElem hn, Option.getD_some]
      rw [Nat.div_eq_of_lt hl, Nat.mod_eq_of_lt hl]
      simp
    rw [e]
    simp only [w16, List.flatMap_append, List.flatMap_cons, List.flatMap_nil, List.append_nil]
  go_enter Tryz.func22, Tryz.ntmps22
  go_wp2
  go_loopw [3, 4] (fun a k wr => ∃ n : Nat, n ≤ l.length ∧ k = .int .i64 n ∧ a = .string ⟨(w16 (l.take n)).toArray⟩ ∧ Pur w wr) (fun _ k _ => l.length + 1 - (intOf k).toNat)
  case atStart => exact ⟨0, by omega, rfl, rfl, Pur.refl w⟩
  case round =>
    obtain ⟨n, hn, rfl, rfl, hpr⟩ := hrel
    by_cases hlt : n < l.length
    · have hlt' : (n : Int) < l.length := by omega
      have cb := by8_lt l n
      have HS := Lib.hid (hsn n hlt)
      have hwl := Nm.w16_len (l.take n)
      rw [List.length_take] at hwl
      have U := fun w => runit_any (by8 l n : Nat) w (by omega) (by omega)
      have ut : ((by8 l n : Nat) : Int).toNat = by8 l n := by omega
      rw [ut] at U
      clear ut
      have z1 : ¬ 9223372036854775807 < (w16 (l.take n)).length + 2 := by omega
      generalize w16 (l.take n) = acc at *
      clear hsn
      go_wp2_with fail
      refine (U _).mono ?_
      rintro e w1 ⟨rfl, h1⟩
      go_wp2
      go_roundw
      case rel => exact ⟨n + 1, by omega, by go_num, by rw [HS.out], hpr.trans h1⟩
      case measure => simp [intOf]; omega
    · obtain rfl : n = l.length := by omega
      rw [List.take_length]
      clear hsn
      go_wp2
      go_ret
      exact ⟨rfl, hpr⟩
/-- what layer 4 asks of the world -/
structure AK (w : World) : Prop where
  x : XW P10.Hi0 P10.Lo0 w
  n : Nm.NW P10.Hi0 P10.Lo0 P10.T0 w
theorem AK.pur {w w' : World} (h : AK w) (hp : Pur w w') : AK w' := ⟨h.x.pur hp, h.n.pur hp⟩
theorem n12 {w : World} (h : AK w) : Calls Tryz.prog 21 #[.string ⟨(w16 [32, 49, 50, 32]).toArray⟩] w fun e w' => e = .returned (.float .f64 4622945017495814144) ∧ Pur w w' :=
  Nm.number_dec (s := [49, 50]) (by decide) (by decide +kernel) (by decide +kernel) (Us.dec_int (m := 12) (by decide +kernel) (by decide) (by decide) (by decide +kernel) (by decide +kernel) (by decide +kernel)) h.n
theorem n31 {w : World} (h : AK w) : Calls Tryz.prog 21 #[.string ⟨(w16 [48, 120, 49, 70]).toArray⟩] w fun e w' => e = .returned (.float .f64 4629418941960159232) ∧ Pur w w' := by
  have := Us.hex_adv (Hi := P10.Hi0) (Lo := P10.Lo0) (T := P10.T0) (s := [48, 120, 49, 70]) (by decide +kernel) (by decide)
  rw [show (Us.hexV [48, 120, 49, 70]).1 = 4629418941960159232 by decide +kernel] at this
  exact Nm.number_hex2 (s := [48, 120, 49, 70]) (by decide) (by decide +kernel) (by decide +kernel) this h.n
end Ft
end Go.Proofs.YtciigfaojmpoiaaGreatDoor
namespace Go.Proofs.YtciigfaojmpoiaaGreatDoor
open Go Go.RowKit
set_option linter.all false
open Lx (w16)
namespace Ft
set_option maxRecDepth 100000 in
set_option maxHeartbeats 8000000 in
theorem awake_any {w : World} (h : AK w) : Calls Tryz.prog 9 #[] w fun e w' => e = .returned (.bool true) ∧ Pur w w' := by
  have T1 := fun (W : World) (hp : Pur w W) => text_any 4591870180066957722 (h.pur hp).x (by decide)
  have T2 := fun (W : World) (hp : Pur w W) => text_any 4921056587992461136 (h.pur hp).x (by decide)
  have T3 := fun (W : World) (hp : Pur w W) => text_any 13728134904377344886 (h.pur hp).x (by decide)
  simp only [P10.t1] at T1
  simp only [P10.t2] at T2
  simp only [P10.t3] at T3
  have O1 := fun W => of_any [32, 49, 50, 32] W (by decide)
  have O2 := fun W => of_any [48, 120, 49, 70] W (by decide)
  have N1 := fun (W : World) (hp : Pur w W) => n12 (h.pur hp)
  have N2 := fun (W : World) (hp : Pur w W) => n31 (h.pur hp)
  have U1 := fun W => Mt.uint32_any 13830554455654793216 W (by decide)
  rw [show Mt.u32 13830554455654793216 = 4294967295 by decide +kernel] at U1
  have I1 := fun W => Mt.int32_any 4751297606873776128 W (by decide)
  rw [show Mt.u32 4751297606873776128 = 4294967295 by decide +kernel, show IntKind.i32.wrap ((4294967295 : Nat) : Int) = -1 by decide] at I1
  have W1 := fun W => Mt.whole_any 13836183955189006336 W (by decide)
  rw [show Mt.whole 13836183955189006336 = 13835058055282163712 by decide +kernel] at W1
  have S1 := fun W => Mt.same_any 0 13830554455654793216 W (by decide) (by decide)
  rw [show Mt.same 0 13830554455654793216 = false by decide +kernel] at S1
  have f1 : FloatKind.f64.format.order 4622945017495814144 4622945017495814144 = some .eq := by decide
  have f2 : FloatKind.f64.format.order 4629418941960159232 4629418941960159232 = some .eq := by decide
  have f3 : FloatKind.f64.format.order 13835058055282163712 13835058055282163712 = some .eq := by decide
  generalize w16 [32, 49, 50, 32] = X1 at *
  generalize w16 [48, 120, 49, 70] = X2 at *
  go_enter Tryz.func9, Tryz.ntmps9
  go_wp2_with fail
  refine (T1 _ (Pur.refl _)).mono ?_
  rintro e w1 ⟨rfl, p1⟩
  go_wp2_with fail
  refine (T2 _ p1).mono ?_
  rintro e w2 ⟨rfl, q2⟩
  have p2 := p1.trans q2
  go_wp2_with fail
  refine (T3 _ p2).mono ?_
  rintro e w3 ⟨rfl, q3⟩
  have p3 := p2.trans q3
  go_wp2_with fail
  refine (O1 _).mono ?_
  rintro e w4 ⟨rfl, q4⟩
  have p4 := p3.trans q4
  go_wp2_with fail
  refine (N1 _ p4).mono ?_
  rintro e w5 ⟨rfl, q5⟩
  have p5 := p4.trans q5
  go_wp2_with fail
  refine (O2 _).mono ?_
  rintro e w6 ⟨rfl, q6⟩
  have p6 := p5.trans q6
  go_wp2_with fail
  refine (N2 _ p6).mono ?_
  rintro e w7 ⟨rfl, q7⟩
  have p7 := p6.trans q7
  go_wp2_with fail
  refine (U1 _).mono ?_
  rintro e w8 ⟨rfl, rfl⟩
  go_wp2_with fail
  refine (I1 _).mono ?_
  rintro e w8 ⟨rfl, rfl⟩
  go_wp2_with fail
  refine (W1 _).mono ?_
  rintro e w8 ⟨rfl, rfl⟩
  go_wp2_with fail
  refine (S1 _).mono ?_
  rintro e w8 ⟨rfl, rfl⟩
  go_wp2
  go_ret
  exact ⟨rfl, p7⟩
end Ft
end Go.Proofs.YtciigfaojmpoiaaGreatDoor
