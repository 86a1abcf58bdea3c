/- The law FieldsMany. -/
import Derived.Test.YthfoidodcfdpnaaDoorFld16
namespace Go.Proofs.YthfoidodcfdpnaaDoor
open Go Go.RowKit
set_option maxRecDepth 100000 in
set_option maxHeartbeats 4000000 in
theorem many_law (n : Int) (e : Bool) (w : World) (hM : MX w) (h0 : 0 ≤ n) (_ : n < 256) :
    Calls Tryd.prog 8 #[.int .u8 n, .bool e] w fun r w' => r = .returned (.bool true) ∧ Pur w w' := by
  obtain ⟨i0, hi, hz⟩ := Option.map_eq_some_iff.1 fld_info
  simp only [Prod.mk.injEq] at hz
  obtain ⟨hz0, hz1, hz2⟩ := hz
  obtain ⟨z0, hz0, hzs⟩ := Option.map_eq_some_iff.1 hz0
  obtain ⟨N, hN⟩ := Int.eq_ofNat_of_zero_le (show 0 ≤ n % 70 by omega)
  have hN' : n.tmod 70 = (N : Int) := by rw [Int.tmod_eq_emod_of_nonneg h0, hN]
  have hNl : N < 70 := by omega
  have P1 := fun w hM => parse_any' (manyS e N) w hM
  have P2 := fun v w hR => write_any v (List.replicate N kv) w hR (by simp; omega) (rep_small N)
  have hml := many_len e N
  have hmf := many_fields e N
  have hjl := joined_len (List.replicate N kv)
  rw [bulk_rep, List.length_replicate] at hjl
  go_enter Tryd.func8, Tryd.ntmps8
  go_wp2_with fail
  refine (awake_any _ hM).mono ?_
  rintro e w1 ⟨rfl, hp1⟩
  cases e
  case false =>
    go_wp2
    go_loopw [5, 6, 17] (fun s l k wr => ∃ j : Nat, j ≤ N ∧ k = .int .i64 j ∧ s = .string ⟨(manyS false j).toArray⟩ ∧ wr.ownsRow w1.heap.size 34 2 l j (fcells (List.replicate j kv)) ∧ Pur w1 wr) (fun _ _ k _ => N + 1 - (intOf k).toNat)
    case atStart => exact ⟨0, by omega, rfl, rfl, World.ownsRow_nil _ _ _ _, Pur.refl w1⟩
    case round =>
      obtain ⟨j, hj, rfl, rfl, hown, hpr⟩ := hrel
      by_cases hlt : j < N
      · have hlt' : (j : Int) < N := by omega
        have jl := many_len false j
        have HS := Lib.hid (show manyS false (j + 1) = manyS false j ++ (if 0 < j then [38] else []) ++ [107, 61, 118] ++ [] from rfl)
        have hrep : fcells (List.replicate j kv) ++ [.string ⟨#[107]⟩, .string ⟨#[118]⟩] = fcells (List.replicate (j + 1) kv) := by
          rw [List.replicate_succ', ← fcells_snoc]
          rfl
        have HR := Lib.hid hrep
        clear hrep
        rcases (show j = 0 ∨ 0 < j by omega) with rfl | hj0
        all_goals
          first | (have hj1 : decide ((0 : Int) < j) = true := decide_eq_true (by omega)) | skip
          go_wp2_with (at_builtin; refine wpList_append_own _ rfl _ _ 23 rfl w1.heap.size 34 i0 z0 2 32 Tryd.underlying23 hi hz0 hz1 hz2 hzs (by decide) _ _ _ rfl (hown.alloc _) ⟨_, 0, none⟩ 1 1 [.string ⟨#[107]⟩, .string ⟨#[118]⟩] rfl rfl ?c1 ?c2 ?c3 ?c4 ?c5 ?_)
          case c1 =>
            intro i u hi
            first
              | simpa using hi
              | (rw [add_zero', World.cell?_alloc_mark]
                 match i, hi with
                 | 0, hi => simpa using hi
                 | 1, hi => simpa using hi)
          case c2 => first | (exact ⟨rfl, rfl⟩) | (intro u hu; simp at hu; rcases hu with rfl | rfl <;> rfl)
          case c3 => unfold maxLen; omega
          case c4 => omega
          case c5 => have := hpr.size; simp; omega
          intro v5 w5 hown5 hgrow _
          go_wp2
          go_roundw
          case rel =>
            refine ⟨_ + 1, hlt, by go_num, by rw [HS.out]; simp [*], ?_, (hpr.alloc _).grown hgrow (by have := hpr.size; simp; omega) (fun k hk => (hown.lt k hk).1)⟩
            rw [← HR.out]
            exact hown5
          case measure => simp [intOf]; try omega
      · obtain rfl : j = N := by omega
        have hle : decide (j < j) = false := by simp
        obtain ⟨ao, cp, rfl⟩ := own_slice hown
        have hown' : wr.ownsRow w1.heap.size 34 2 (.slice ao j cp) (List.replicate j kv).length (fcells (List.replicate j kv)) := by rw [List.length_replicate]; exact hown
        have HR := Lib.hid (FRead.of_own hown')
        clear hown hown'
        by_cases h32 : 32 < j
        · have d1 : decide ((32 : Int) < (j : Int)) = true := decide_eq_true (by omega)
          rw [parse_full (by omega) hmf (by simp; omega)] at P1
          rw [write_long (by simp; omega)] at P2
          simp only at P1 P2
          clear hmf hml hjl h32
          go_wp2_with fail
          refine (P1 _ (hM.pur (hp1.trans hpr))).mono ?_
          rintro e w2 ⟨a2, c2, rfl, hr2, hp2⟩
          go_wp2_with fail
          refine (P2 _ _ (HR.out.pur hp2)).mono ?_
          rintro e w3 ⟨rfl, hp3⟩
          go_wp2
          go_ret
          exact ⟨rfl, ((hp1.trans hpr).trans hp2).trans hp3⟩
        · have d1 : decide ((32 : Int) < (j : Int)) = false := decide_eq_false (by omega)
          rw [parse_ok (by omega) hmf (by simp; omega)] at P1
          rw [write_ok (by simp; omega) (by omega)] at P2
          simp only [List.length_replicate] at P1 P2
          clear hmf hml hjl h32
          go_wp2_with fail
          refine (P1 _ (hM.pur (hp1.trans hpr))).mono ?_
          rintro e w2 ⟨a2, c2, rfl, hr2, hp2⟩
          go_wp2_with fail
          refine (P2 _ _ (HR.out.pur hp2)).mono ?_
          rintro e w3 ⟨rfl, hp3⟩
          go_wp2
          go_ret
          exact ⟨by simp, ((hp1.trans hpr).trans hp2).trans hp3⟩
  case true =>
    go_wp2
    go_loopw [5, 6, 17] (fun s l k wr => ∃ j : Nat, j ≤ N ∧ k = .int .i64 j ∧ s = .string ⟨(manyS true j).toArray⟩ ∧ wr.ownsRow w1.heap.size 34 2 l j (fcells (List.replicate j kv)) ∧ Pur w1 wr) (fun _ _ k _ => N + 1 - (intOf k).toNat)
    case atStart => exact ⟨0, by omega, rfl, rfl, World.ownsRow_nil _ _ _ _, Pur.refl w1⟩
    case round =>
      obtain ⟨j, hj, rfl, rfl, hown, hpr⟩ := hrel
      by_cases hlt : j < N
      · have hlt' : (j : Int) < N := by omega
        have jl := many_len true j
        have HS := Lib.hid (show manyS true (j + 1) = manyS true j ++ (if 0 < j then [38] else []) ++ [107, 61, 118] ++ [38] from rfl)
        have hrep : fcells (List.replicate j kv) ++ [.string ⟨#[107]⟩, .string ⟨#[118]⟩] = fcells (List.replicate (j + 1) kv) := by
          rw [List.replicate_succ', ← fcells_snoc]
          rfl
        have HR := Lib.hid hrep
        clear hrep
        rcases (show j = 0 ∨ 0 < j by omega) with rfl | hj0
        all_goals
          first | (have hj1 : decide ((0 : Int) < j) = true := decide_eq_true (by omega)) | skip
          go_wp2_with (at_builtin; refine wpList_append_own _ rfl _ _ 23 rfl w1.heap.size 34 i0 z0 2 32 Tryd.underlying23 hi hz0 hz1 hz2 hzs (by decide) _ _ _ rfl (hown.alloc _) ⟨_, 0, none⟩ 1 1 [.string ⟨#[107]⟩, .string ⟨#[118]⟩] rfl rfl ?c1 ?c2 ?c3 ?c4 ?c5 ?_)
          case c1 =>
            intro i u hi
            first
              | simpa using hi
              | (rw [add_zero', World.cell?_alloc_mark]
                 match i, hi with
                 | 0, hi => simpa using hi
                 | 1, hi => simpa using hi)
          case c2 => first | (exact ⟨rfl, rfl⟩) | (intro u hu; simp at hu; rcases hu with rfl | rfl <;> rfl)
          case c3 => unfold maxLen; omega
          case c4 => omega
          case c5 => have := hpr.size; simp; omega
          intro v5 w5 hown5 hgrow _
          go_wp2
          go_roundw
          case rel =>
            refine ⟨_ + 1, hlt, by go_num, by rw [HS.out]; simp [*], ?_, (hpr.alloc _).grown hgrow (by have := hpr.size; simp; omega) (fun k hk => (hown.lt k hk).1)⟩
            rw [← HR.out]
            exact hown5
          case measure => simp [intOf]; try omega
      · obtain rfl : j = N := by omega
        have hle : decide (j < j) = false := by simp
        obtain ⟨ao, cp, rfl⟩ := own_slice hown
        have hown' : wr.ownsRow w1.heap.size 34 2 (.slice ao j cp) (List.replicate j kv).length (fcells (List.replicate j kv)) := by rw [List.length_replicate]; exact hown
        have HR := Lib.hid (FRead.of_own hown')
        clear hown hown'
        by_cases h32 : 32 < j
        · have d1 : decide ((32 : Int) < (j : Int)) = true := decide_eq_true (by omega)
          rw [parse_full (by omega) hmf (by simp; omega)] at P1
          rw [write_long (by simp; omega)] at P2
          simp only at P1 P2
          clear hmf hml hjl h32
          go_wp2_with fail
          refine (P1 _ (hM.pur (hp1.trans hpr))).mono ?_
          rintro e w2 ⟨a2, c2, rfl, hr2, hp2⟩
          go_wp2_with fail
          refine (P2 _ _ (HR.out.pur hp2)).mono ?_
          rintro e w3 ⟨rfl, hp3⟩
          go_wp2
          go_ret
          exact ⟨rfl, ((hp1.trans hpr).trans hp2).trans hp3⟩
        · have d1 : decide ((32 : Int) < (j : Int)) = false := decide_eq_false (by omega)
          rw [parse_ok (by omega) hmf (by simp; omega)] at P1
          rw [write_ok (by simp; omega) (by omega)] at P2
          simp only [List.length_replicate] at P1 P2
          clear hmf hml hjl h32
          go_wp2_with fail
          refine (P1 _ (hM.pur (hp1.trans hpr))).mono ?_
          rintro e w2 ⟨a2, c2, rfl, hr2, hp2⟩
          go_wp2_with fail
          refine (P2 _ _ (HR.out.pur hp2)).mono ?_
          rintro e w3 ⟨rfl, hp3⟩
          go_wp2
          go_ret
          exact ⟨by simp, ((hp1.trans hpr).trans hp2).trans hp3⟩
end Go.Proofs.YthfoidodcfdpnaaDoor
