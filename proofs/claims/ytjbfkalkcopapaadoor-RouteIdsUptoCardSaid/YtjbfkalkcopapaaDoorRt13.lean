/- The document's Find; equality of addresses; Write, both. -/
import Derived.Test.YtjbfkalkcopapaaDoorRt12
import Derived.Test.YtjbfkalkcopapaaDoorRt6
import Derived.Test.YtjbfkalkcopapaaDoorStructEq
namespace Go.Proofs.YtjbfkalkcopapaaDoor
open Go Go.RowKit
set_option linter.all false
theorem internal_rest {t : Bytes} (h0 : t ≠ []) (h1 : t ≠ tInternal) (h2 : t ≠ tParent) : internal t = if headS <+: t ∧ okId (t.drop 8) = true then some ⟨4, t.drop 8, [], 0, []⟩ else if headI <+: t ∧ okId (t.drop 2) = true then some ⟨5, t.drop 2, [], 0, []⟩ else none := by
  unfold internal
  rw [if_neg h0, if_neg h1, if_neg h2]
set_option maxRecDepth 100000 in
set_option maxHeartbeats 4000000 in
theorem rfind_int (t typ : Bytes) (w : World) (hs : t.length ≤ 140737488351232) (h1 : processor typ = 1) :
    Calls Tryd.prog 10 #[.string ⟨t.toArray⟩, .string ⟨typ.toArray⟩] w fun e w' => e = .returned (.tuple #[adrV (said190 (internal t)).1, .int .i64 (said190 (internal t)).2]) ∧ Pur w w' := by
  have P := fun w => rprocessor_any typ w
  rw [h1] at P
  clear h1
  by_cases h0 : t = []
  · subst h0
    have e : said190 (internal []) = (⟨1, [], [], 0, []⟩, 0) := by decide
    rw [e]
    clear e
    go_enter Tryd.func10, Tryd.ntmps10
    go_wp2_with fail
    refine (P _).mono ?_
    rintro e w' ⟨rfl, rfl⟩
    go_wp2
    refine bodyPost_ret (v := .tuple #[adrV ⟨1, [], [], 0, []⟩, .int .i64 0]) (by simp [results, Tryd.results10, go_sem, adrV, Adr.zero]) rfl ⟨rfl, ?_⟩
    repeat (first | with_reducible exact Pur.refl w | refine Pur.setCell ?_ (by simp) _ | refine Pur.alloc ?_ _)
  by_cases h1 : t = [35, 95, 105, 110, 116, 101, 114, 110, 97, 108]
  · subst h1
    have e : said190 (internal [35, 95, 105, 110, 116, 101, 114, 110, 97, 108]) = (⟨2, [], [], 0, []⟩, 0) := by decide
    rw [e]
    clear e
    go_enter Tryd.func10, Tryd.ntmps10
    go_wp2_with fail
    refine (P _).mono ?_
    rintro e w' ⟨rfl, rfl⟩
    go_wp2
    refine bodyPost_ret (v := .tuple #[adrV ⟨2, [], [], 0, []⟩, .int .i64 0]) (by simp [results, Tryd.results10, go_sem, adrV, Adr.zero]) rfl ⟨rfl, ?_⟩
    repeat (first | with_reducible exact Pur.refl w | refine Pur.setCell ?_ (by simp) _ | refine Pur.alloc ?_ _)
  by_cases h2 : t = [35, 95, 112, 97, 114, 101, 110, 116]
  · subst h2
    have e : said190 (internal [35, 95, 112, 97, 114, 101, 110, 116]) = (⟨3, [], [], 0, []⟩, 0) := by decide
    rw [e]
    clear e
    go_enter Tryd.func10, Tryd.ntmps10
    go_wp2_with fail
    refine (P _).mono ?_
    rintro e w' ⟨rfl, rfl⟩
    go_wp2
    refine bodyPost_ret (v := .tuple #[adrV ⟨3, [], [], 0, []⟩, .int .i64 0]) (by simp [results, Tryd.results10, go_sem, adrV, Adr.zero]) rfl ⟨rfl, ?_⟩
    repeat (first | with_reducible exact Pur.refl w | refine Pur.setCell ?_ (by simp) _ | refine Pur.alloc ?_ _)
  rw [internal_rest h0 h1 h2]
  have q0 := isEmpty_no h0
  have q1 := beq_no h1
  have q2 := beq_no h2
  clear h0 h1 h2
  have B1 : ∀ w, Calls Tryd.prog 20 #[.string ⟨t.toArray⟩, .string ⟨#[35, 95, 115, 99, 120, 109, 108, 95]⟩] w fun e w' => e = .returned (.bool (decide (headS <+: t))) ∧ w = w' := fun w => begins_any t headS w hs
  have B2 : ∀ w, Calls Tryd.prog 20 #[.string ⟨t.toArray⟩, .string ⟨#[35, 95]⟩] w fun e w' => e = .returned (.bool (decide (headI <+: t))) ∧ w = w' := fun w => begins_any t headI w hs
  have I1 := fun w => rid_any (t.drop 8) w (by rw [List.length_drop]; omega)
  have I2 := fun w => rid_any (t.drop 2) w (by rw [List.length_drop]; omega)
  have s1 := sub_to_end t 8
  have s2 := sub_to_end t 2
  by_cases pS : headS <+: t
  focus
    have pI : headI <+: t := List.IsPrefix.trans ⟨[115, 99, 120, 109, 108, 95], rfl⟩ pS
    have n8 : (8 : Int) ≤ t.length := by have := pS.length_le; have e : headS.length = 8 := rfl; omega
    have n2 : (2 : Int) ≤ t.length := by omega
    rw [decide_eq_true pS] at B1
    rw [decide_eq_true pI] at B2
    rcases iS : okId (t.drop 8) with _ | _ <;> rcases iI : okId (t.drop 2) with _ | _ <;> rw [iS] at I1 <;> rw [iI] at I2
  rotate_left 4
  by_cases pI : headI <+: t
  focus
    have n2 : (2 : Int) ≤ t.length := by have := pI.length_le; have e : headI.length = 2 := rfl; omega
    rw [decide_eq_false pS] at B1
    rw [decide_eq_true pI] at B2
    rcases iS : okId (t.drop 8) with _ | _ <;> rcases iI : okId (t.drop 2) with _ | _ <;> rw [iS] at I1 <;> rw [iI] at I2
  rotate_left 4
  focus
    rw [decide_eq_false pS] at B1
    rw [decide_eq_false pI] at B2
    rcases iS : okId (t.drop 8) with _ | _ <;> rcases iI : okId (t.drop 2) with _ | _ <;> rw [iS] at I1 <;> rw [iI] at I2
  all_goals
    simp only [pS, pI, true_and, false_and, if_true, if_false, reduceCtorEq, Bool.false_eq_true]
    clear pS pI iS iI
    go_enter Tryd.func10, Tryd.ntmps10
    go_wp2_with (first
      | (go_at_call 12; refine (P _).mono ?_; rintro e w' ⟨rfl, rfl⟩)
      | (go_at_call 20; with_reducible refine (B1 _).mono ?_; rintro e w' ⟨rfl, rfl⟩)
      | (go_at_call 20; with_reducible refine (B2 _).mono ?_; rintro e w' ⟨rfl, rfl⟩)
      | (go_at_call 21; with_reducible refine (I1 _).mono ?_; rintro e w' ⟨rfl, rfl⟩)
      | (go_at_call 21; with_reducible refine (I2 _).mono ?_; rintro e w' ⟨rfl, rfl⟩))
    first
    | refine bodyPost_ret (v := .tuple #[adrV Adr.zero, .int .i64 190]) (by simp [results, Tryd.results10, go_sem, adrV, Adr.zero]) rfl ⟨rfl, ?_⟩
    | refine bodyPost_ret (v := .tuple #[adrV ⟨4, t.drop 8, [], 0, []⟩, .int .i64 0]) (by simp [results, Tryd.results10, go_sem, adrV, Adr.zero]) rfl ⟨rfl, ?_⟩
    | refine bodyPost_ret (v := .tuple #[adrV ⟨5, t.drop 2, [], 0, []⟩, .int .i64 0]) (by simp [results, Tryd.results10, go_sem, adrV, Adr.zero]) rfl ⟨rfl, ?_⟩
    repeat (first | with_reducible exact Pur.refl w | refine Pur.setCell ?_ (by simp) _ | refine Pur.alloc ?_ _)
theorem processor_cases (typ : Bytes) : processor typ = 1 ∨ processor typ = 2 ∨ processor typ = 0 := by
  unfold processor
  split
  · exact .inl rfl
  · split
    · exact .inr (.inl rfl)
    · exact .inr (.inr rfl)
set_option maxRecDepth 100000 in
set_option maxHeartbeats 4000000 in
theorem rfind_any (t typ : Bytes) (w : World) (hs : t.length ≤ 140737488351232) :
    Calls Tryd.prog 10 #[.string ⟨t.toArray⟩, .string ⟨typ.toArray⟩] w fun e w' => e = .returned (.tuple #[adrV (rtFind t typ).1, .int .i64 (rtFind t typ).2]) ∧ Pur w w' := by
  rcases processor_cases typ with h1 | h1 | h1
  · rw [rtFind_one h1]
    exact rfind_int t typ w hs h1
  · rw [rtFind_two h1]
    have P := fun w => rprocessor_any typ w
    have U := fun w => rurl_any t w hs
    rw [h1] at P
    generalize said190 (url t) = r at *
    obtain ⟨⟨rk, ri, rh, rp, rq⟩, rn⟩ := r
    clear h1
    go_enter Tryd.func10, Tryd.ntmps10
    go_wp2_with fail
    refine (P _).mono ?_
    rintro e w' ⟨rfl, rfl⟩
    go_wp2_with fail
    refine (U _).mono ?_
    rintro e w1 ⟨rfl, hp1⟩
    obtain ⟨c0, c1, c2, c3, c4, f0, f1, f2, f3, f4⟩ := blk_facts (own_blk hp1)
    have hz := hp1.size
    have HP := Lib.hid (((Pur.refl w).alloc _).trans hp1)
    clear hp1 P U
    simp only [adrV]
    go_wp2
    refine bodyPost_ret (v := .tuple #[adrV ⟨rk, ri, rh, rp, rq⟩, .int .i64 rn]) (by simp [results, Tryd.results10, go_sem, adrV, Adr.zero, c0, c1, c2, c3, c4, f0, f1, f2, f3, f4]) rfl ⟨rfl, ?_⟩
    have hpu := HP.out
    repeat (first | with_reducible exact hpu | refine Pur.setCell ?_ (by simp) _)
  · have e : rtFind t typ = (Adr.zero, 1) := by rw [rtFind, if_neg (by omega), if_neg (by omega)]
    rw [e]
    have P := fun w => rprocessor_any typ w
    rw [h1] at P
    clear h1 e
    go_enter Tryd.func10, Tryd.ntmps10
    go_wp2_with fail
    refine (P _).mono ?_
    rintro e w' ⟨rfl, rfl⟩
    go_wp2
    refine bodyPost_ret (v := .tuple #[adrV Adr.zero, .int .i64 1]) (by simp [results, Tryd.results10, go_sem, adrV, Adr.zero]) rfl ⟨rfl, ?_⟩
    repeat (first | with_reducible exact Pur.refl w | refine Pur.setCell ?_ (by simp) _ | refine Pur.alloc ?_ _)
end Go.Proofs.YtjbfkalkcopapaaDoor
