/- Layer 8: the document's Right, of a heap of no objects: the walk; the same texts. -/
import Derived.Test.YtfophnmnehpenaaDoorHk1
namespace Go.Proofs.YtfophnmnehpenaaDoor
open Go Go.RowKit
set_option linter.all false
set_option maxRecDepth 100000 in
set_option maxHeartbeats 8000000 in
theorem rright_any (b : Nat) (x : Va) (w : World) (hb : w.heap[b]? = some (.cells #[.slice none 0 0, .int .i64 0] 94 (0, 0))) (ht : x.text.length ≤ 1000000000) :
    Calls Tryd.prog 29 #[.pointer (some ⟨b, 0, none⟩), x.v] w fun e w' => e = .returned (.bool x.rightR) ∧ Pur w w' := by
  obtain ⟨k, n, t, r⟩ := x
  have NS := fun w => nsame_zero n w
  have HA := has_none b r _ (bk_alloc hb (.cells #[.int .i64 k, .float .f64 n, .string ⟨t.toArray⟩, .int .i64 r] 33))
  simp only [Va.v, Va.cells, Va.rightR] at *
  have u3 : (FloatKind.f64.format.order n 4607182418800017408 == some Ordering.eq) = eqB n 4607182418800017408 := rfl
  generalize decide (n = 0) = b1 at *
  generalize eqB n 4607182418800017408 = b2 at *
  clear hb
  by_cases k0 : k = 0
  · subst k0
    clear HA u3
    rcases b1 with _ | _ <;> rcases t with _ | ⟨t1, t⟩ <;> by_cases r0 : r = 0
    all_goals
      try have r1 := decide_eq_false r0
      go_enter Tryd.func29, Tryd.ntmps29
      go_wp2_with (go_at_call 45; refine (NS _).mono ?_; rintro e w' ⟨rfl, rfl⟩)
      go_ret
      exact ⟨by simp_all, (Pur.refl _).alloc _⟩
  by_cases k1 : k = 1
  · subst k1
    clear HA u3
    rcases b1 with _ | _ <;> rcases t with _ | ⟨t1, t⟩ <;> by_cases r0 : r = 0
    all_goals
      try have r1 := decide_eq_false r0
      go_enter Tryd.func29, Tryd.ntmps29
      go_wp2_with (go_at_call 45; refine (NS _).mono ?_; rintro e w' ⟨rfl, rfl⟩)
      go_ret
      exact ⟨by simp_all, (Pur.refl _).alloc _⟩
  by_cases k2 : k = 2
  · subst k2
    clear HA
    rcases b1 with _ | _ <;> rcases hb2 : b2 with _ | _ <;> rcases t with _ | ⟨t1, t⟩ <;> by_cases r0 : r = 0
    all_goals
      try have r1 := decide_eq_false r0
      go_enter Tryd.func29, Tryd.ntmps29
      go_wp2_with (go_at_call 45; refine (NS _).mono ?_; rintro e w' ⟨rfl, rfl⟩)
      go_ret
      exact ⟨by simp_all, (Pur.refl _).alloc _⟩
  by_cases k3 : k = 3
  · subst k3
    clear HA u3
    rcases t with _ | ⟨t1, t⟩ <;> by_cases r0 : r = 0
    all_goals
      try have r1 := decide_eq_false r0
      go_enter Tryd.func29, Tryd.ntmps29
      go_wp2_with (go_at_call 45; refine (NS _).mono ?_; rintro e w' ⟨rfl, rfl⟩)
      go_ret
      exact ⟨by simp_all, (Pur.refl _).alloc _⟩
  by_cases k4 : k = 4
  · subst k4
    clear HA u3
    rcases b1 with _ | _ <;> by_cases r0 : r = 0
    all_goals
      try have r1 := decide_eq_false r0
      go_enter Tryd.func29, Tryd.ntmps29
      go_wp2_with (go_at_call 45; refine (NS _).mono ?_; rintro e w' ⟨rfl, rfl⟩)
      go_ret
      exact ⟨by simp_all, (Pur.refl _).alloc _⟩
  by_cases k5 : k = 5
  · subst k5
    clear u3
    rcases b1 with _ | _ <;> rcases t with _ | ⟨t1, t⟩
    all_goals
      go_enter Tryd.func29, Tryd.ntmps29
      go_wp2_with (first | (go_at_call 45; refine (NS _).mono ?_; rintro e w' ⟨rfl, rfl⟩) | (go_at_call 53; refine HA.mono ?_; rintro e w' ⟨rfl, rfl⟩))
      go_ret
      exact ⟨by simp_all, (Pur.refl _).alloc _⟩
  by_cases k6 : k = 6
  · subst k6
    clear HA u3
    rcases b1 with _ | _ <;> rcases t with _ | ⟨t1, t⟩ <;> by_cases r0 : 0 ≤ r
    all_goals
      try have r1 := decide_eq_false r0
      go_enter Tryd.func29, Tryd.ntmps29
      go_wp2_with (go_at_call 45; refine (NS _).mono ?_; rintro e w' ⟨rfl, rfl⟩)
      go_ret
      exact ⟨by simp_all, (Pur.refl _).alloc _⟩
  rw [if_neg (by omega), if_neg k2, if_neg k3, if_neg k4, if_neg k5, if_neg k6]
  clear HA u3
  go_enter Tryd.func29, Tryd.ntmps29
  go_wp2_with (go_at_call 45; refine (NS _).mono ?_; rintro e w' ⟨rfl, rfl⟩)
  go_ret
  exact ⟨rfl, (Pur.refl _).alloc _⟩
set_option maxRecDepth 100000 in
set_option maxHeartbeats 4000000 in
theorem texts_same (a b : Option Addr) (ca cb : Nat) (ks : List (List UInt8)) (w : World) (ha : Feeds w 1 a ks.length (keyVs ks)) (hb : Feeds w 1 b ks.length (keyVs ks)) (hn : ks.length ≤ 1000000000) :
    Calls Tryd.prog 30 #[.slice a ks.length ca, .slice b ks.length cb] w fun e w' => e = .returned (.bool true) ∧ Pur w w' := by
  have FA := fun (w' : World) (hp : Pur w w') (h0 : 0 < ks.length) => ha.2 h0
  go_enter Tryd.func30, Tryd.ntmps30
  go_wp2
  go_loopw [5] (fun i wr => ∃ n : Nat, n ≤ ks.length ∧ i = .int .i64 n ∧ Pur w wr) (fun i _ => ks.length + 1 - (intOf i).toNat)
  case atStart => exact ⟨0, by omega, rfl, Pur.refl w⟩
  case round =>
    obtain ⟨n, hnl, rfl, hpr⟩ := hrel
    by_cases hlt : n < ks.length
    · have hlt' : (n : Int) < ks.length := by omega
      have hn0 : (0 : Int) ≤ n := by omega
      have hwn : IntKind.i64.wrap ((n : Int) + 1) = n + 1 := IntWalk.i64_in _ (by omega)
      obtain ⟨aa, rfl, ca1⟩ := ha.2 (by omega)
      obtain ⟨bb, rfl, cb1⟩ := hb.2 (by omega)
      have hk : (keyVs ks)[n]? = some (.string ⟨ks[n].toArray⟩) := by simp [keyVs, hlt]
      have xa := ca1 n _ hk
      have xb := cb1 n _ hk
      have za : ∀ y : PW wr, y.to.cell? (aa.add n) = some (.string ⟨ks[n].toArray⟩) := fun y => ((hpr.trans y.pur).cell (World.block_lt_of_cell? w _ xa)).trans xa
      have zb : ∀ y : PW wr, y.to.cell? (bb.add n) = some (.string ⟨ks[n].toArray⟩) := fun y => ((hpr.trans y.pur).cell (World.block_lt_of_cell? w _ xb)).trans xb
      generalize ks[n] = kn at *
      clear ha hb ca1 cb1 hk xa xb FA
      go_wp2_with fail
      refine wp_region_pur (by kernel_rfl) (by kernel_rfl) ?_
      repeat (go_big_quiet_step (fail))
      refine wpQuiet_nil ?_
      intro w2 h2
      go_wp2
      go_roundw
      case rel => exact ⟨n + 1, by omega, by go_num, hpr.trans h2⟩
      case measure => simp [intOf]; omega
    · obtain rfl : n = ks.length := by omega
      clear ha hb FA
      go_wp2
      go_ret
      exact ⟨rfl, hpr⟩
end Go.Proofs.YtfophnmnehpenaaDoor
