/- Layer 8: the law HeapIndexes, walked. -/
import Derived.Test.YtfophnmnehpenaaDoorHm31
namespace Go.Proofs.YtfophnmnehpenaaDoor
open Go Go.RowKit
set_option linter.all false
set_option maxRecDepth 100000 in
set_option maxHeartbeats 8000000 in
theorem indexes_law (l : List UInt8) (n : Int) (w : World) (hW : HpW w) (h0 : -9223372036854775808 ≤ n) (h1 : n ≤ 9223372036854775807) (hs : l.length ≤ 1000000000) :
    Calls Tryd.prog 3 #[.string ⟨l.toArray⟩, .int .i64 n] w fun e w' => e = .returned (.bool true) ∧ Pur w w' := by
  have AW := awake_any w
  by_cases hl : 400 < l.length
  · have hd : decide (400 < (l.length : Int)) = true := decide_eq_true (by omega)
    clear hs
    go_enter Tryd.func3, Tryd.ntmps3
    go_wp2_with fail
    go_wp2_with fail
    refine (AW).mono ?_
    rintro e w1 ⟨rfl, h1⟩
    go_wp2
    go_ret
    exact ⟨rfl, h1⟩
  have hd : decide (400 < (l.length : Int)) = false := decide_eq_false (by omega)
  have hkl : (keyOf n).length ≤ 100 := by
    unfold keyOf
    rw [wide8_len]
    have := itoa_short n h0 h1
    omega
  have IX := fun w => index_any l w hs
  have RX := fun w => rindex_any l w hs
  have KX := fun w hw => key_any n w hw h0 h1
  have RK := fun w => rkey_any n w h0 h1
  have IK := fun w => index_any (keyOf n) w (by omega)
  rw [index_key n h0 h1] at IK
  generalize keyOf n = kn at *
  clear hkl hs
  have ways : (∃ a b : Bool, decide (0 ≤ n) = a ∧ decide (n ≤ 2147483647) = b ∧ (if 0 ≤ n ∧ n ≤ 2147483647 then some n.toNat else none) = (if a && b then some n.toNat else none)) := by
    refine ⟨_, _, rfl, rfl, ?_⟩
    by_cases a : 0 ≤ n <;> by_cases b : n ≤ 2147483647 <;> simp [a, b]
  obtain ⟨a, b, ha, hb, hi⟩ := ways
  rw [hi] at IK
  have hx : ∃ o : Option Nat, index l = o := ⟨_, rfl⟩
  obtain ⟨o, ho⟩ := hx
  rw [ho] at IX RX
  clear hi ho hl h0 h1
  have HT : 0 ≤ n → ((n.toNat : Nat) : Int) = n := fun h => by omega
  rcases o with _ | m <;> rcases a with _ | _ <;> rcases b with _ | _ <;>
    simp only [Bool.and_true, Bool.and_false, Bool.false_and, Bool.true_and, if_true, if_false, Bool.false_eq_true, ix, rx] at IX RX IK
  all_goals
    try have hm : max (m : Int) 0 = m := by omega
    try have hm2 : (0 : Int) ≤ m := by omega
    try (obtain ⟨q, hq⟩ : ∃ q : Int, q = -1 := ⟨_, rfl⟩; rw [← hq] at RX; have hm : max q 0 = 0 := (by omega); have hm2 : decide (0 ≤ q) = false := decide_eq_false (by omega); clear hq)
    try (have hn0 := of_decide_eq_true ha; rw [HT hn0] at IK)
    try clear hn0
    clear HT
    go_enter Tryd.func3, Tryd.ntmps3
    go_wp2_with fail
    go_wp2_with fail
    refine (AW).mono ?_
    rintro e w1 ⟨rfl, p1⟩
    go_wp2_with fail
    refine (IX _).mono ?_
    rintro e w2 ⟨rfl, p2⟩
    go_wp2_with fail
    refine (RX _).mono ?_
    rintro e w3 ⟨rfl, p3⟩
    go_wp2_with fail
    refine (KX _ (hW.pur ((p1.trans p2).trans p3))).mono ?_
    rintro e w4 ⟨rfl, p4⟩
    go_wp2_with fail
    refine (IK _).mono ?_
    rintro e w5 ⟨rfl, p5⟩
    go_wp2_with fail
    refine (KX _ (hW.pur ((((p1.trans p2).trans p3).trans p4).trans p5))).mono ?_
    rintro e w6 ⟨rfl, p6⟩
    go_wp2_with fail
    refine (RK _).mono ?_
    rintro e w7 ⟨rfl, p7⟩
    go_wp2
    go_ret
    exact ⟨by simp, (((((p1.trans p2).trans p3).trans p4).trans p5).trans p6).trans p7⟩
end Go.Proofs.YtfophnmnehpenaaDoor
