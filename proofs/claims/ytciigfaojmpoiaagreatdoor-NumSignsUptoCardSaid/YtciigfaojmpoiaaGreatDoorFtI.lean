/- NumWholes: the walk. A whole number's digits, with a sign or without, are read as that number. NumInts: the walk. -/
import Derived.Test.YtciigfaojmpoiaaGreatDoorFtH
namespace Go.Proofs.YtciigfaojmpoiaaGreatDoor
open Go Go.RowKit
set_option linter.all false
namespace Mt
set_option exponentiation.threshold 3000
theorem whole_int (z : Int) (h : z.natAbs < 9007199254740992) : whole (floatOfInt .f64 z) = floatOfInt .f64 z := by
  obtain ⟨c, hc, hv, e⟩ := int_word z h
  rw [e]
  exact whole_fin _ hc hc (by rw [hv, Nat.mul_div_cancel _ (Nat.pow_pos (by decide))])
theorem zT_len (z : Int) (h : z.natAbs < 9007199254740992) : (Ft.zT z).length ≤ 21 := by
  have := Ft.dec_le z.natAbs (by omega)
  unfold Ft.zT
  split
  · rw [List.length_cons]; omega
  · omega
set_option maxRecDepth 100000 in
set_option maxHeartbeats 4000000 in
theorem wholes_law (n : Int) (w : World) (h : Ft.AK w) :
    Calls Tryz.prog 4 #[.int .i64 n] w fun e w' => e = .returned (.bool true) ∧ Pur w w' := by
  have AW := Ft.awake_any h
  obtain ⟨m, hm⟩ : ∃ m, n.tmod 1000000000000000 = m := ⟨_, rfl⟩
  have hm1 : m.natAbs < 1000000000000000 := by rw [← hm]; have := Int.natAbs_tmod n 1000000000000000; rw [this]; exact Nat.mod_lt _ (by decide)
  have hm2 : m.natAbs < 9007199254740992 := Nat.lt_trans hm1 (by decide)
  have hmh := Lib.hid hm
  have H1 : ∃ (fx : Nat) (u : Nat), floatOfInt .f64 m = fx ∧ fx < 18446744073709551616 ∧ u32 fx = u ∧ (u : Int) = m % 4294967296 ∧ whole fx = fx ∧ Ie.nan fx = false ∧ Ft.txt P10.Hi0 P10.Lo0 fx = Ft.zT m :=
    ⟨_, _, rfl, int_lt m, rfl, u32_int m hm2, whole_int m hm2, (int_fin m hm2).1, Ft.txt_whole m (Nat.lt_trans hm1 (by decide))⟩
  obtain ⟨fx, u, x4, l1, hu, e1, hwh, hnan, ht⟩ := H1
  have T1 := fun (W : World) (hp : Pur w W) => Ft.text_any fx (h.pur hp).x l1
  simp only [ht] at T1
  have W1 := fun w => whole_any fx w l1
  rw [hwh] at W1
  have U1 := fun w => uint32_any fx w l1
  rw [hu] at U1
  have o1 : FloatKind.f64.format.order fx fx = some .eq := Ie.order_self l1 hnan
  have x5 : IntKind.u32.wrap m = (u : Int) := by rw [IntKind.wrap_u32, e1]
  have hlen := Ft.dec_le m.natAbs (by omega)
  have D1 := fun w => Ft.rdec_any m.natAbs w (by omega)
  by_cases g : m < 0
  · obtain ⟨k, rfl⟩ : ∃ k : Nat, m = -(k : Int) := ⟨m.natAbs, by omega⟩
    have hk0 : 0 < k := by omega
    rw [Int.natAbs_neg, Int.natAbs_natCast] at D1 hlen hm1
    have hz : Ft.zT (-(k : Int)) = 45 :: Lib.decDigits k := by unfold Ft.zT; rw [if_pos g, Int.natAbs_neg, Int.natAbs_natCast]
    simp only [hz] at T1
    have w1 : IntKind.i64.wrap (k : Int) = (k : Int) := IntWalk.i64_in _ (by omega)
    have hm' := hmh.out
    clear hz ht hwh hu l1 hnan e1 hm1 hm2 g hm hmh h
    generalize Lib.decDigits k = D at *
    have z1 : ¬ 9223372036854775807 < 1 + D.length := by omega
    go_enter Tryz.func4, Tryz.ntmps4
    go_wp2_with fail
    refine AW.mono ?_
    rintro e w1 ⟨rfl, p1⟩
    go_wp2_with fail
    refine (T1 _ p1).mono ?_
    rintro e w2 ⟨rfl, q2⟩
    have p2 := p1.trans q2
    go_wp2_with fail
    refine (D1 _).mono ?_
    rintro e w3 ⟨rfl, q3⟩
    have p3 := p2.trans q3
    go_wp2_with fail
    refine (W1 _).mono ?_
    rintro e w4 ⟨rfl, rfl⟩
    go_wp2_with fail
    refine (U1 _).mono ?_
    rintro e w4 ⟨rfl, rfl⟩
    go_wp2
    go_ret
    exact ⟨rfl, p3⟩
  · obtain ⟨k, rfl⟩ : ∃ k : Nat, m = (k : Int) := ⟨m.natAbs, by omega⟩
    rw [Int.natAbs_natCast] at D1 hlen hm1
    have hz : Ft.zT (k : Int) = Lib.decDigits k := by unfold Ft.zT; rw [if_neg g, Int.natAbs_natCast]
    simp only [hz] at T1
    have d0 : decide ((k : Int) < 0) = false := decide_eq_false g
    have w1 : IntKind.i64.wrap (k : Int) = (k : Int) := IntWalk.i64_in _ (by omega)
    have hm' := hmh.out
    clear hz ht hwh hu l1 hnan e1 hm1 hm2 g hm hmh h
    generalize Lib.decDigits k = D at *
    have z1 : ¬ 9223372036854775807 < 0 + D.length := by omega
    go_enter Tryz.func4, Tryz.ntmps4
    go_wp2_with fail
    refine AW.mono ?_
    rintro e w1 ⟨rfl, p1⟩
    go_wp2_with fail
    refine (T1 _ p1).mono ?_
    rintro e w2 ⟨rfl, q2⟩
    have p2 := p1.trans q2
    go_wp2_with fail
    refine (D1 _).mono ?_
    rintro e w3 ⟨rfl, q3⟩
    have p3 := p2.trans q3
    go_wp2_with fail
    refine (W1 _).mono ?_
    rintro e w4 ⟨rfl, rfl⟩
    go_wp2_with fail
    refine (U1 _).mono ?_
    rintro e w4 ⟨rfl, rfl⟩
    go_wp2
    go_ret
    exact ⟨rfl, p3⟩
end Mt
end Go.Proofs.YtciigfaojmpoiaaGreatDoor
namespace Go.Proofs.YtciigfaojmpoiaaGreatDoor
open Go Go.RowKit
set_option linter.all false
open Lx (w16)
namespace Ft
open Rf
/-- what digits are worth -/
def dval : List UInt8 → Nat → Nat
  | [], m => m
  | c :: R, m => dval R (m * 10 + (c.toNat - 48))
theorem dval_app : ∀ (A B : List UInt8) (m : Nat), dval (A ++ B) m = dval B (dval A m)
  | [], _, _ => rfl
  | _ :: A, B, m => dval_app A B _
theorem dval_dec (n : Nat) : dval (Lib.decDigits n) 0 = n := by
  induction n using Nat.strongRecOn with
  | _ n ih =>
    by_cases g : n < 10
    · rw [Lib.decDigits, dif_pos g]
      show 0 * 10 + ((UInt8.ofNat (48 + n)).toNat - 48) = n
      rw [byte48 g]; omega
    · rw [Lib.decDigits, dif_neg g, dval_app, ih (n / 10) (by omega)]
      show n / 10 * 10 + ((UInt8.ofNat (48 + n % 10)).toNat - 48) = n
      rw [byte48 (by omega)]; omega
theorem by8_at {l : List UInt8} {i : Nat} {c : UInt8} {R : List UInt8} (h : l.drop i = c :: R) : i < l.length ∧ by8 l i = c.toNat ∧ l.drop (i + 1) = R := by
  have hi : i < l.length := by
    rcases Nat.lt_or_ge i l.length with g | g
    · exact g
    · rw [List.drop_of_length_le g] at h; cases h
  rw [List.drop_eq_getElem_cons hi] at h
  injection h with h1 h2
  refine ⟨hi, ?_, h2⟩
  unfold by8
  rw [List.getD_eq_getElem?_getD, List.getElem?_eq_getElem hi, ← h1]; rfl
/-- digits alone, up to the end -/
theorem go_digs (l : List UInt8) : ∀ (D : List UInt8) (f i m nd nm : Nat) (dp : Int) (dg : Bool), l.drop i = D → (∀ c ∈ D, 48 ≤ c.toNat ∧ c.toNat ≤ 57) → (nd = 0 → ∀ c R, D = c :: R → c ≠ 48) → nm + D.length ≤ 19 → D.length < f →
    go l false f ⟨i, m, nd, nm, dp, false, dg, false⟩ = ⟨i + D.length, dval D m, nd + D.length, nm + D.length, dp, false, dg || !D.isEmpty, false⟩
  | [], 0, i, m, nd, nm, dp, dg, h, hd, hz, hn, hf => by cases hf
  | [], f + 1, i, m, nd, nm, dp, dg, h, hd, hz, hn, hf => by
    rw [go]
    have : l.length ≤ i := by
      rcases Nat.lt_or_ge i l.length with g | g
      · rw [List.drop_eq_getElem_cons g] at h; cases h
      · exact g
    rw [if_neg (by show ¬ i < l.length; omega)]
    simp [dval]
  | c :: R, 0, i, m, nd, nm, dp, dg, h, hd, hz, hn, hf => by cases hf
  | c :: R, f + 1, i, m, nd, nm, dp, dg, h, hd, hz, hn, hf => by
    obtain ⟨h1, h2, h3⟩ := by8_at h
    have hc := hd c (List.mem_cons_self ..)
    rw [List.length_cons] at hn hf
    rw [go]
    rw [if_pos (by show i < l.length; exact h1)]
    show (match Rf.step false (by8 l i) ⟨i, m, nd, nm, dp, false, dg, false⟩ with | some t => go l false f t | none => _) = _
    rw [h2, step_dig (by simp only [digC, Bool.and_eq_true, decide_eq_true_eq]; omega) (by
      rintro ⟨e1, e2⟩
      exact hz e2 c R rfl (UInt8.toNat_inj.1 (by rw [e1]; rfl))) (by show nm < 19; omega)]
    show go l false f ⟨i + 1, m * 10 + (c.toNat - 48), nd + 1, nm + 1, dp, false, true, false⟩ = _
    rw [go_digs l R f (i + 1) _ (nd + 1) (nm + 1) dp true h3 (fun x hx => hd x (List.mem_cons_of_mem _ hx)) (fun e => by omega) (by omega) (by omega)]
    simp only [dval, List.length_cons, List.isEmpty_cons, Bool.not_false, Bool.or_true, Bool.true_or]
    congr 1 <;> omega
theorem digs_dec (pre : List UInt8) {n : Nat} (h : 0 < n) (hl : (Lib.decDigits n).length ≤ 19) :
    digs (pre ++ Lib.decDigits n) false pre.length = ⟨pre.length + (Lib.decDigits n).length, n, (Lib.decDigits n).length, (Lib.decDigits n).length, 0, false, true, false⟩ := by
  obtain ⟨c, t, hc, h48⟩ := dec_head h
  have := go_digs (pre ++ Lib.decDigits n) (Lib.decDigits n) ((pre ++ Lib.decDigits n).length + 1) pre.length 0 0 0 0 false (List.drop_left) (dec_digit n) (fun _ c' R' e => by
    rw [hc] at e
    injection e with e1 e2
    rw [← e1]; exact h48) (by omega) (by rw [List.length_append]; omega)
  rw [dval_dec, Nat.zero_add] at this
  unfold digs Rf.start
  rw [this, hc]
  rfl
theorem run_digs : ∀ D : List UInt8, (∀ c ∈ D, 48 ≤ c.toNat ∧ c.toNat ≤ 57) → Nm.runGo Nm.digits D = D.length
  | [], _ => rfl
  | c :: R, h => by
    have hall : ∀ c : UInt8, (48 ≤ c.toNat ∧ c.toNat ≤ 57) → Nm.digits.contains c = true := fun c hc => by
      have : ∀ k : Nat, k < 256 → 48 ≤ k ∧ k ≤ 57 → Nm.digits.contains (UInt8.ofNat k) = true := by decide +kernel
      have h2 := this c.toNat (UInt8.toNat_lt c) hc
      rwa [UInt8.ofNat_toNat] at h2
    rw [Nm.runGo, if_pos (hall c (h c (List.mem_cons_self ..))), run_digs R (fun x hx => h x (List.mem_cons_of_mem _ hx))]
    rfl
theorem dec_ne (n : Nat) : 0 < (Lib.decDigits n).length := by
  rw [Lib.decDigits]
  split
  · simp
  · rw [List.length_append]; simp
theorem dec_decimal (n : Nat) : Nm.decimal (Lib.decDigits n) = true := by
  have h := run_digs _ (dec_digit n)
  have h0 := dec_ne n
  unfold Nm.decimal Nm.mantEnd
  rw [h, List.drop_of_length_le (Nat.le_refl _)]
  show (if (Lib.decDigits n).length = 0 then false else Nm.expEnd []) = true
  rw [if_neg (by omega)]
  rfl
/-- a whole number's digits, read -/
theorem ad_dec {Hi Lo T : Nat → Nat} (n : Nat) (h : n < 4503599627370496) : Us.AD Hi Lo T (Lib.decDigits n) (floatOfInt .f64 (n : Int)) false := by
  have hl := dec_le n (by omega)
  have hl19 : (Lib.decDigits n).length ≤ 19 := by
    rcases Nat.eq_zero_or_pos n with g | g
    · rw [g]; decide +kernel
    · rw [Lib.decDigits_length]
      have : ∀ (k u : Nat), u < 10 ^ (k + 1) → Lib.nDigits u ≤ k + 1 := by
        intro k
        induction k with
        | zero => intro u h; rw [Lib.nDigits_small (by simpa using h)]; exact Nat.le_refl _
        | succ k ih =>
          intro u h
          by_cases g : u < 10
          · rw [Lib.nDigits_small g]; omega
          · rw [Lib.nDigits_big g]
            have := ih (u / 10) (by rw [Nat.pow_succ] at h; omega)
            omega
      exact this 18 n (by omega)
  rcases Nat.eq_zero_or_pos n with g | g
  · subst g
    exact Us.dec_int (m := 0) (dec_decimal 0) (by omega) (by decide) (by decide +kernel) (by decide +kernel) (by decide +kernel)
  · have hd := digs_dec [] g hl19
    rw [List.nil_append, List.length_nil] at hd
    refine Us.dec_int (m := n) (dec_decimal n) (by omega) h (by rw [hd]) ?_ (by rw [hd])
    unfold Rf.pow
    rw [hd]
    simp only [dpOf, exPart]
    rw [if_neg (by omega : ¬ n = 0), if_neg (by omega : ¬ (0 + (Lib.decDigits n).length < (Lib.decDigits n).length))]
    simp
/-- the library's look for Inf and NaN behind a sign -/
theorem pre_no (D : List UInt8) (w : World) (h0 : 0 < D.length) (h1 : 48 ≤ by8 D 0 ∧ by8 D 0 ≤ 57) :
    Calls Tryz.prog 165 #[.string ⟨D.toArray⟩, .string ⟨#[105, 110, 102, 105, 110, 105, 116, 121]⟩] w fun e w' => e = .returned (.int .i64 0) ∧ w = w' := by
  have h0' : (0 : Int) < D.length := by omega
  have d1 : decide ((65 : Int) ≤ (by8 D 0 : Int)) = false := by rw [decide_eq_false_iff_not]; omega
  have d2 : ((by8 D 0 : Int) != (by8 [105, 110, 102, 105, 110, 105, 116, 121] 0 : Int)) = true := by
    rw [show by8 [105, 110, 102, 105, 110, 105, 116, 121] 0 = 105 from rfl, bne_iff_ne]; omega
  have hne : ¬ D = [] := by intro e; rw [e] at h0; simp at h0
  have m1 : (0 : Int) < min 8 (D.length : Int) := by omega
  go_enter Tryz.func165, Tryz.ntmps165
  go_wp2
  go_loopw [6] (fun x wr => x = .int .i64 0 ∧ w = wr) (fun _ _ => 0)
  case atStart => exact ⟨rfl, rfl⟩
  case round =>
    obtain ⟨rfl, rfl⟩ := hrel
    go_wp2
    go_ret
    exact ⟨rfl, rfl⟩
set_option maxRecDepth 100000 in
theorem special_neg (D : List UInt8) (w : World) (h0 : 0 < D.length) (h1 : 48 ≤ by8 D 0 ∧ by8 D 0 ≤ 57) (hl : D.length ≤ 1000) :
    Calls Tryz.prog 148 #[.string ⟨(45 :: D).toArray⟩] w fun e w' => e = .returned (.tuple #[.float .f64 0, .int .i64 0, .bool false]) ∧ w = w' := by
  have PN := fun w => pre_no D w h0 h1
  have h0' : (0 : Int) < (45 :: D : List UInt8).length := by rw [List.length_cons]; omega
  have h2' : (1 : Int) ≤ (45 :: D : List UInt8).length := by rw [List.length_cons]; omega
  have hb : by8 (45 :: D) 0 = 45 := rfl
  have hsub : sub (45 :: D) 1 (45 :: D : List UInt8).length = D := by unfold sub; simp
  obtain ⟨l, hlq⟩ : ∃ l : List UInt8, 45 :: D = l := ⟨_, rfl⟩
  have hne : ¬ l = [] := by intro e; rw [e] at hlq; cases hlq
  rw [hlq] at h0' hb hsub h2' ⊢
  have d0 : ((l.length : Int) == 0) = false := by rw [beq_eq_false_iff_ne]; omega
  have d1 : ((by8 l 0 : Int) == 43) = false := by rw [hb]; rfl
  have d2 : ((by8 l 0 : Int) == 45) = true := by rw [hb]; rfl
  clear hlq h1 hl hb
  go_enter Tryz.func148, Tryz.ntmps148
  go_wp2_with fail
  refine (PN _).mono ?_
  rintro e w1 ⟨rfl, rfl⟩
  go_wp2
  go_ret3
  exact ⟨rfl, rfl⟩
theorem by8_dig {D : List UInt8} (h : ∀ c ∈ D, 48 ≤ c.toNat ∧ c.toNat ≤ 57) {k : Nat} (hk : k < D.length) : 48 ≤ by8 D k ∧ by8 D k ≤ 57 := by
  unfold by8
  rw [List.getD_eq_getElem?_getD, List.getElem?_eq_getElem hk]
  exact h _ (List.getElem_mem hk)
theorem dec_19 (n : Nat) (h : n < 10000000000000000000) : (Lib.decDigits n).length ≤ 19 := by
  rw [Lib.decDigits_length]
  have : ∀ (k u : Nat), u < 10 ^ (k + 1) → Lib.nDigits u ≤ k + 1 := by
    intro k
    induction k with
    | zero => intro u h; rw [Lib.nDigits_small (by simpa using h)]; exact Nat.le_refl _
    | succ k ih =>
      intro u h
      by_cases g : u < 10
      · rw [Lib.nDigits_small g]; omega
      · rw [Lib.nDigits_big g]
        have := ih (u / 10) (by rw [Nat.pow_succ] at h; omega)
        omega
  exact this 18 n (by omega)
/-- the same with a sign -/
theorem ad_neg {Hi Lo T : Nat → Nat} (n : Nat) (g : 0 < n) (h : n < 4503599627370496) : Us.AD Hi Lo T (45 :: Lib.decDigits n) (Us.sg true (floatOfInt .f64 (n : Int))) false := by
  have hl19 := dec_19 n (by omega)
  have hdg := dec_digit n
  have h0 := dec_ne n
  have hd := digs_dec [45] g hl19
  rw [show [45] ++ Lib.decDigits n = 45 :: Lib.decDigits n from rfl, show ([45] : List UInt8).length = 1 from rfl] at hd
  have hb : ∀ k, by8 (45 :: Lib.decDigits n) (k + 1) = by8 (Lib.decDigits n) k := fun k => by rw [by8_cons]
  have hb0 : by8 (45 :: Lib.decDigits n) 0 = 45 := rfl
  have hall : ∀ k, by8 (Lib.decDigits n) k = 0 ∨ (48 ≤ by8 (Lib.decDigits n) k ∧ by8 (Lib.decDigits n) k ≤ 57) := fun k => by
    rcases Nat.lt_or_ge k (Lib.decDigits n).length with k1 | k1
    · exact .inr (by8_dig hdg k1)
    · exact .inl (Nm.by8_out _ k1)
  refine Us.atof_int (n := true) h (fun w => special_neg _ w h0 (by8_dig hdg h0) (by omega)) (fun w => ?_)
  generalize Lib.decDigits n = D at *
  have hsg : sgn (45 :: D) = 1 := by unfold sgn; rw [hb0]; rfl
  have hng : neg (45 :: D) = true := by unfold neg; rw [hb0]; rfl
  have hx : hexAt (45 :: D) 1 = false := by
    unfold hexAt
    rw [show 1 + 1 = 1 + 1 from rfl, hb 1]
    have h3 : ((by8 D 1 ||| 32) == 120) = false := by
      rw [beq_eq_false_iff_ne]
      have hk : ∀ k, k ≤ 57 → (k ||| 32) ≠ 120 := by decide +kernel
      exact hk _ (by have := hall 1; omega)
    rw [h3]; simp
  have hf : from0 (45 :: D) = 1 := by unfold from0; rw [hsg, hx]; rfl
  have hU : ∀ i, by8 (45 :: D) i ≠ 95 := fun i => by
    cases i with
    | zero => rw [hb0]; decide
    | succ k => rw [hb k]; have := hall k; omega
  have hlen : (45 :: D : List UInt8).length = 1 + D.length := by rw [List.length_cons]; omega
  have hW : Rf.Whole (45 :: D) false 1 := ⟨by rw [hd], .inl ⟨by rw [hd, hlen], rfl⟩⟩
  have hp : Rf.pow (45 :: D) false 1 = 0 := by
    unfold Rf.pow
    rw [hd]
    simp only [dpOf, exPart]
    rw [if_neg (by omega : ¬ n = 0), if_neg (by omega : ¬ (1 + D.length < (45 :: D : List UInt8).length))]
    simp
  refine (Rf.readFloat_dec (45 :: D) w (by omega) (by omega) hU (by rw [hsg, hx, hf]; exact hW) (by rw [hsg]; exact hx)).mono ?_
  rintro e w' hq
  unfold Rf.RfPost at hq
  rw [hsg, hx, hf, hng, hp, hd] at hq
  exact hq
end Ft
end Go.Proofs.YtciigfaojmpoiaaGreatDoor
namespace Go.Proofs.YtciigfaojmpoiaaGreatDoor
open Go Go.RowKit
set_option linter.all false
open Lx (w16)
namespace Mt
set_option exponentiation.threshold 3000
theorem neg_int (n : Nat) (h0 : 0 < n) (h : n < 9007199254740992) : Us.sg true (floatOfInt .f64 (n : Int)) = floatOfInt .f64 (-(n : Int)) := by
  obtain ⟨c, hc, hv, e⟩ := int_word (n : Int) (by omega)
  obtain ⟨d, hd, hv2, e2⟩ := int_word (-(n : Int)) (by omega)
  have : c = d := Ie.V_inj (by rw [hv, hv2]; congr 1; omega)
  subst this
  rw [show decide ((n : Int) < 0) = false by rw [decide_eq_false_iff_not]; omega] at e
  rw [show decide (-(n : Int) < 0) = true by rw [decide_eq_true_eq]; omega] at e2
  rw [e, e2]
  have hs : ∀ x, Us.sg true x = Op.negFloat .f64 x := fun x => rfl
  rw [hs, Ie.neg_word false (by omega)]
  rfl
theorem pl_digs {D : List UInt8} (h : ∀ c ∈ D, 48 ≤ c.toNat ∧ c.toNat ≤ 57) : Nm.Pl D := fun k hk => by
  have := Ft.by8_dig h hk
  exact ⟨by omega, Nm.blank_no _ (by omega) (by omega)⟩
theorem pl_neg {D : List UInt8} (h : ∀ c ∈ D, 48 ≤ c.toNat ∧ c.toNat ≤ 57) : Nm.Pl (45 :: D) := fun k hk => by
  cases k with
  | zero => exact ⟨(show (45 : Nat) < 128 by decide), (show Nm.blank 45 = false by decide)⟩
  | succ k =>
    rw [by8_cons]
    rw [List.length_cons] at hk
    have := Ft.by8_dig h (k := k) (by omega)
    exact ⟨by omega, Nm.blank_no _ (by omega) (by omega)⟩
set_option maxRecDepth 100000 in
set_option maxHeartbeats 8000000 in
theorem number_neg {Hi Lo T : Nat → Nat} {D : List UInt8} {x : Nat} {b : Bool} {w : World} (hl : D.length ≤ 1000) (h0 : 0 < D.length) (hdg : ∀ c ∈ D, 48 ≤ c.toNat ∧ c.toNat ≤ 57) (hdec : Nm.decimal D = true) (hA : Us.AD Hi Lo T (45 :: D) x b) (hW : Nm.NW Hi Lo T w) :
    Calls Tryz.prog 21 #[.string ⟨(w16 (45 :: D)).toArray⟩] w fun e w' => e = .returned (.float .f64 x) ∧ Pur w w' := by
  have hwl := Nm.w16_len (45 :: D)
  have PL := Nm.plain_any (w16 (45 :: D)) w (by rw [hwl, List.length_cons]; omega)
  have PF : ∀ w', Pur w w' → _ := fun w' h => Nm.pf_any hA (by rw [List.length_cons]; omega) (hW.pur h)
  rw [Nm.plain_w16 (pl_neg hdg) (by rw [List.length_cons]; omega)] at PL
  unfold Nm.PlainPost at PL
  have DE := fun w => Nm.decimal_any D w (by omega)
  rw [hdec] at DE
  have hb : by8 (45 :: D) 0 = 45 := rfl
  have hsub : sub (45 :: D) 1 (45 :: D : List UInt8).length = D := by unfold sub; simp
  have x6 : (0 : Int) < (45 :: D : List UInt8).length := by rw [List.length_cons]; omega
  have x7 : (1 : Int) ≤ (45 :: D : List UInt8).length := by rw [List.length_cons]; omega
  have hinf2 : ¬ D = [73, 110, 102, 105, 110, 105, 116, 121] := fun e => by
    have := hdg 73 (by rw [e]; simp)
    exact absurd this.2 (by decide)
  have hinf : (D == [73, 110, 102, 105, 110, 105, 116, 121]) = false := by rw [beq_eq_false_iff_ne]; exact hinf2
  obtain ⟨s, hs⟩ : ∃ s : List UInt8, 45 :: D = s := ⟨_, rfl⟩
  have hne : ¬ s = [] := by intro e; rw [e] at hs; cases hs
  have hne2 : s.isEmpty = false := by rw [← hs]; rfl
  rw [hs] at PL hb hsub x6 x7 ⊢
  simp only [hs] at PF
  have d1 : ((by8 s 0 : Int) == 48) = false := by rw [hb]; rfl
  have d2 : ((by8 s 0 : Int) == 43) = false := by rw [hb]; rfl
  have d3 : ((by8 s 0 : Int) == 45) = true := by rw [hb]; rfl
  generalize w16 s = X at *
  clear hs hA hW hdg hdec hl hwl hb
  rcases t1 : decide ((2 : Int) < (s.length : Int)) with _ | _
  all_goals
    go_enter Tryz.func21, Tryz.ntmps21
    go_wp2_with fail
    refine PL.mono ?_
    rintro e w1 ⟨rfl, p1⟩
    have PF1 := PF w1 p1
    clear PF PL
    go_wp2_with fail
    refine (DE _).mono ?_
    rintro e w2 ⟨rfl, rfl⟩
    go_wp2_with fail
    refine PF1.mono ?_
    rintro e w2 ⟨he, p2⟩
    rcases he with rfl | ⟨te, pe, rfl⟩
    all_goals
      go_wp2
      go_ret
      exact ⟨rfl, p1.trans p2⟩
/-- a whole number's digits, a sign ahead, as a wide text: that number -/
theorem number_int {w : World} (z : Int) (h : z.natAbs < 4503599627370496) (hW : Ft.AK w) : Calls Tryz.prog 21 #[.string ⟨(w16 (Ft.zT z)).toArray⟩] w fun e w' => e = .returned (.float .f64 (floatOfInt .f64 z)) ∧ Pur w w' := by
  have hl := Ft.dec_le z.natAbs (by omega)
  have h0 := Ft.dec_ne z.natAbs
  have hdg := Ft.dec_digit z.natAbs
  have hdec := Ft.dec_decimal z.natAbs
  by_cases g : z < 0
  · have ha := Ft.ad_neg (Hi := P10.Hi0) (Lo := P10.Lo0) (T := P10.T0) z.natAbs (by omega) h
    rw [neg_int _ (by omega) (by omega), show -(z.natAbs : Int) = z by omega] at ha
    rw [show Ft.zT z = 45 :: Lib.decDigits z.natAbs by unfold Ft.zT; rw [if_pos g]]
    exact number_neg (by omega) h0 hdg hdec ha hW.n
  · have ha := Ft.ad_dec (Hi := P10.Hi0) (Lo := P10.Lo0) (T := P10.T0) z.natAbs h
    rw [show (z.natAbs : Int) = z by omega] at ha
    rw [show Ft.zT z = Lib.decDigits z.natAbs by unfold Ft.zT; rw [if_neg g]]
    exact Nm.number_dec (by rw [Nm.w16_len]; omega) (Nm.plain_w16 (pl_digs hdg) h0) hdec ha hW.n
end Mt
namespace Ie
open Ieee
set_option exponentiation.threshold 3000
/-- a sum above 0 that the format has -/
theorem add_pos {a b c : Nat} (ha : a < 9218868437227405312) (hb : b < 9218868437227405312) (hc : c < 9218868437227405312) (h : V c = V a + V b) (h0 : 0 < V c) : double.add (double.word false a) (double.word false b) = some (double.word false c) := by
  obtain ⟨m, k, e1, e2⟩ := read_word false a ha
  obtain ⟨n, l, f1, f2⟩ := read_word false b hb
  unfold Format.add
  rw [e1, f1]
  unfold Datum.sum
  dsimp only
  rw [min_place]
  have h1 := signed_up false m k (min k l) (Nat.min_le_left _ _)
  have h2 := signed_up false n l (min k l) (Nat.min_le_right _ _)
  rw [e2] at h1
  rw [f2] at h2
  have hp : (0 : Int) < 2 ^ (min k l) := Int.pow_pos (by decide)
  simp only [Bool.false_eq_true, if_false, if_true] at h1 h2 ⊢
  obtain ⟨x, hx⟩ : ∃ x, signed false m ((k : Int) - 1074 - (((min k l : Nat) : Int) - 1074)).toNat = x := ⟨_, rfl⟩
  obtain ⟨y, hy⟩ : ∃ y, signed false n ((l : Int) - 1074 - (((min k l : Nat) : Int) - 1074)).toNat = y := ⟨_, rfl⟩
  rw [hx] at h1 ⊢
  rw [hy] at h2 ⊢
  have h3 : (x + y) * 2 ^ (min k l) = (V c : Int) := by rw [Int.add_mul, h1, h2]; omega
  have h4 : 0 ≤ x + y := by
    by_cases g : x + y < 0
    · have := Int.mul_lt_mul_of_pos_right g hp
      rw [h3, Int.zero_mul] at this
      omega
    · omega
  obtain ⟨z, hz⟩ := Int.eq_ofNat_of_zero_le h4
  rw [hz] at h3 ⊢
  have h5 : z * 2 ^ (min k l) = V c := by
    have : ((z * 2 ^ (min k l) : Nat) : Int) = (V c : Int) := by rw [Int.natCast_mul, Int.natCast_pow]; exact h3
    exact Int.ofNat.inj this
  have hs : (if (z : Int) = 0 then false && false else decide ((z : Int) < 0)) = false := by split <;> simp <;> omega
  rw [hs]
  show some (double.nearest false z _) = _
  rw [nearest_eq false z (min k l) c hc h5]
end Ie
namespace Mt
set_option exponentiation.threshold 3000
theorem f32 : Ieee.double.word false 4751297606875873280 = 4751297606875873280 := by decide
theorem V32 : Ie.V 4751297606875873280 = 4294967296 * 2 ^ 1074 := by decide +kernel
theorem add_32 (z : Int) (h0 : -2147483648 ≤ z) (h1 : z ≤ 2147483647) : floatBits .add .f64 (floatOfInt .f64 z) 4751297606875873280 = some (floatOfInt .f64 (z + 4294967296)) := by
  obtain ⟨a, ha, hv, e⟩ := int_word z (by omega)
  obtain ⟨c, hc, hv2, e2⟩ := int_word (z + 4294967296) (by omega)
  rw [show decide (z + 4294967296 < 0) = false by rw [decide_eq_false_iff_not]; omega] at e2
  have hp : 0 < 2 ^ 1074 := Nat.pow_pos (by decide)
  have hpos : 0 < Ie.V c := by rw [hv2]; exact Nat.mul_pos (by omega) hp
  rw [e, e2]
  by_cases g : z < 0
  · rw [decide_eq_true g]
    have := Ie.add_sv ha (b := 4751297606875873280) (by decide) hc (by rw [V32, hv, hv2, ← Nat.add_mul]; congr 1; omega) hpos
    rw [f32] at this
    exact this
  · rw [decide_eq_false g]
    have := Ie.add_pos ha (b := 4751297606875873280) (by decide) hc (by rw [V32, hv, hv2, ← Nat.add_mul]; congr 1; omega) hpos
    rw [f32] at this
    exact this
/-- the law's own digits -/
theorem ldig_int (z : Int) (w : World) (h : z.natAbs < 4503599627370496) : Calls Tryz.prog 20 #[.int .i64 z] w fun e w' => e = .returned (.string ⟨(Ft.zT z).toArray⟩) ∧ Pur w w' := by
  by_cases g : z < 0
  · have := Ft.ldig_neg z.natAbs w (by omega) (by omega)
    rw [show -(z.natAbs : Int) = z by omega] at this
    rw [show Ft.zT z = 45 :: Lib.decDigits z.natAbs by unfold Ft.zT; rw [if_pos g]]
    exact this
  · have := Ft.ldig_any z.natAbs w (by omega)
    rw [show (z.natAbs : Int) = z by omega] at this
    rw [show Ft.zT z = Lib.decDigits z.natAbs by unfold Ft.zT; rw [if_neg g]]
    exact this
set_option maxRecDepth 100000 in
set_option maxHeartbeats 4000000 in
theorem ints_law (z : Int) (w : World) (z0 : -2147483648 ≤ z) (z1 : z ≤ 2147483647) (h : Ft.AK w) :
    Calls Tryz.prog 6 #[.int .i32 z] w fun e w' => e = .returned (.bool true) ∧ Pur w w' := by
  have AW := Ft.awake_any h
  have hz : z.natAbs < 4503599627370496 := by omega
  have hz2 : z.natAbs < 9007199254740992 := by omega
  have hz3 : (z + 4294967296).natAbs < 9007199254740992 := by omega
  have hlen := zT_len z hz2
  have x1 : IntKind.i64.wrap z = z := IntWalk.i64_in _ (by omega)
  have w32 : IntKind.i32.wrap z = z := IntWalk.i32_in _ (by omega)
  have D1 := fun w => ldig_int z w hz
  have H1 : ∃ (fx : Nat) (u : Nat), floatOfInt .f64 z = fx ∧ fx < 18446744073709551616 ∧ u32 fx = u ∧ (u : Int) = z % 4294967296 ∧ whole fx = fx ∧ Ie.nan fx = false ∧ Ft.txt P10.Hi0 P10.Lo0 fx = Ft.zT z ∧
      (∀ W, Pur w W → Calls Tryz.prog 21 #[.string ⟨(w16 (Ft.zT z)).toArray⟩] W fun e w' => e = .returned (.float .f64 fx) ∧ Pur W w') ∧ floatBits .add .f64 fx 4751297606875873280 = some (floatOfInt .f64 (z + 4294967296)) :=
    ⟨_, _, rfl, int_lt z, rfl, u32_int z hz2, whole_int z hz2, (int_fin z hz2).1, Ft.txt_whole z (Nat.lt_of_le_of_lt (show z.natAbs ≤ 2147483648 by omega) (by decide)), fun W hp => number_int z hz (h.pur hp), add_32 z z0 z1⟩
  obtain ⟨fx, u, x4, l1, hu, e1, hwh, hnan, ht, NN, hadd⟩ := H1
  have H2 : ∃ (fy v : Nat), floatOfInt .f64 (z + 4294967296) = fy ∧ fy < 18446744073709551616 ∧ u32 fy = v ∧ (v : Int) = (z + 4294967296) % 4294967296 := ⟨_, _, rfl, int_lt _, rfl, u32_int _ hz3⟩
  obtain ⟨fy, v, x5, l2, hv, e2⟩ := H2
  rw [x5] at hadd
  have huv : v = u := by
    rw [Int.add_emod_right] at e2
    omega
  rw [huv] at hv
  have AD := fun w => run_float_arith (P := Tryz.prog) w .add 22 .f64 fx 4751297606875873280 fy hadd
  have T1 := fun (W : World) (hp : Pur w W) => Ft.text_any fx (h.pur hp).x l1
  simp only [ht] at T1
  have W1 := fun w => whole_any fx w l1
  rw [hwh] at W1
  have U1 := fun w => uint32_any fx w l1
  rw [hu] at U1
  have I1 := fun w => int32_any fx w l1
  have I2 := fun w => int32_any fy w l2
  rw [hu, wrap_mod z u e1, w32] at I1
  rw [hv, wrap_mod z u e1, w32] at I2
  have o1 : FloatKind.f64.format.order fx fx = some .eq := Ie.order_self l1 hnan
  have x6 : IntKind.u32.wrap z = (u : Int) := by rw [IntKind.wrap_u32, e1]
  have OF := fun w => Ft.of_any (Ft.zT z) w (by omega)
  generalize Ft.zT z = D at *
  generalize w16 D = X at *
  clear ht hwh hu hv huv l1 l2 hnan e1 e2 hadd hz hz2 hz3 z0 z1 x5 h
  go_enter Tryz.func6, Tryz.ntmps6
  go_wp2_with fail
  refine AW.mono ?_
  rintro e w1 ⟨rfl, p1⟩
  go_wp2_with fail
  refine (D1 _).mono ?_
  rintro e w2 ⟨rfl, q2⟩
  have p2 := p1.trans q2
  go_wp2_with fail
  refine (T1 _ p2).mono ?_
  rintro e w3 ⟨rfl, q3⟩
  have p3 := p2.trans q3
  go_wp2_with fail
  refine (I1 _).mono ?_
  rintro e w4 ⟨rfl, rfl⟩
  go_wp2_with fail
  refine (U1 _).mono ?_
  rintro e w4 ⟨rfl, rfl⟩
  go_wp2_with fail
  refine (W1 _).mono ?_
  rintro e w4 ⟨rfl, rfl⟩
  go_wp2_with fail
  refine (I2 _).mono ?_
  rintro e w4 ⟨rfl, rfl⟩
  go_wp2_with fail
  refine (OF _).mono ?_
  rintro e w4 ⟨rfl, q4⟩
  have p4 := p3.trans q4
  go_wp2_with fail
  refine (NN _ p4).mono ?_
  rintro e w5 ⟨rfl, q5⟩
  have p5 := p4.trans q5
  go_wp2
  go_ret
  exact ⟨rfl, p5⟩
end Mt
end Go.Proofs.YtciigfaojmpoiaaGreatDoor
