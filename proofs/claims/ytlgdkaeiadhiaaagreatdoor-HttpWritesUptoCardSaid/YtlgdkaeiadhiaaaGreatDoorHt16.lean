/- A response written. -/
import Derived.Test.YtlgdkaeiadhiaaaGreatDoorHt3
import Derived.Test.YtlgdkaeiadhiaaaGreatDoorHtPure4
import Derived.Test.YtlgdkaeiadhiaaaGreatDoorTail
namespace Go.Proofs.YtlgdkaeiadhiaaaGreatDoor
open Go Go.RowKit
set_option linter.all false
set_option maxRecDepth 100000 in
set_option maxHeartbeats 4000000 in
theorem reason_any (n : Int) (w : World) : Calls Tryz.prog 31 #[.int .i64 n] w fun e w' => e = .returned (.string ⟨(reason n).toArray⟩) ∧ w = w' := by
  by_cases h1 : n = 200
  · subst h1
    go_enter Tryz.func31, Tryz.ntmps31
    go_wp2
    go_ret
    exact ⟨rfl, rfl⟩
  by_cases h2 : n = 400
  · subst h2
    go_enter Tryz.func31, Tryz.ntmps31
    go_wp2
    go_ret
    exact ⟨rfl, rfl⟩
  by_cases h3 : n = 404
  · subst h3
    go_enter Tryz.func31, Tryz.ntmps31
    go_wp2
    go_ret
    exact ⟨rfl, rfl⟩
  by_cases h4 : n = 405
  · subst h4
    go_enter Tryz.func31, Tryz.ntmps31
    go_wp2
    go_ret
    exact ⟨rfl, rfl⟩
  by_cases h5 : n = 413
  · subst h5
    go_enter Tryz.func31, Tryz.ntmps31
    go_wp2
    go_ret
    exact ⟨rfl, rfl⟩
  have e : reason n = [] := by unfold reason; rw [if_neg h1, if_neg h2, if_neg h3, if_neg h4, if_neg h5]
  rw [e]
  have d1 : (n == 200) = false := by simpa using h1
  have d2 : (n == 400) = false := by simpa using h2
  have d3 : (n == 404) = false := by simpa using h3
  have d4 : (n == 405) = false := by simpa using h4
  have d5 : (n == 413) = false := by simpa using h5
  clear h1 h2 h3 h4 h5 e
  go_enter Tryz.func31, Tryz.ntmps31
  go_wp2
  go_ret
  exact ⟨rfl, rfl⟩
theorem reason_len (n : Int) : (reason n).length ≤ 30 := by
  unfold reason
  repeat' split
  all_goals simp
theorem itoa_len (n : Int) (h0 : -9223372036854775808 ≤ n) (h1 : n ≤ 9223372036854775807) : (Lib.itoa n).length ≤ 30 := by
  have key : ∀ u : Nat, u ≤ 9223372036854775808 → (Lib.decDigits u).length ≤ 20 := by
    intro u hu
    rw [Lib.decDigits_length]
    exact nDigits_le 19 _ (by omega)
  rw [Lib.itoa]
  split
  · have := key n.natAbs (by omega)
    simp only [List.length_cons]
    omega
  · have := key n.toNat (by omega)
    omega
set_option maxRecDepth 100000 in
set_option maxHeartbeats 4000000 in
theorem writeresp_any (r : Resp) (w : World) (hW : HW w) (hb : r.body.length ≤ 100000000) (h0 : -9223372036854775808 ≤ r.status) (h1 : r.status ≤ 9223372036854775807) :
    Calls Tryz.prog 16 #[.agg #[.int .i64 r.status, .string ⟨r.body.toArray⟩]] w fun e w' => e = .returned (.tuple #[.string ⟨(writeResp r).1.toArray⟩, .int .i64 (writeResp r).2]) ∧ Pur w w' := by
  obtain ⟨s, b⟩ := r
  simp only at hb h0 h1
  obtain ⟨b1, t1⟩ : ∃ b1, decide (s < 100) = b1 := ⟨_, rfl⟩
  obtain ⟨b2, t2⟩ : ∃ b2, decide ((599 : Int) < s) = b2 := ⟨_, rfl⟩
  obtain ⟨b3, t3⟩ : ∃ b3, decide ((4096 : Int) < b.length) = b3 := ⟨_, rfl⟩
  have hR : writeResp ⟨s, b⟩ = if (b1 || b2 || b3) = true then ([], 1) else (respText ⟨s, b⟩, 0) := by
    subst t1 t2 t3
    unfold writeResp
    simp only
    by_cases hc : s < 100 ∨ 599 < s ∨ 4096 < b.length
    · rw [if_pos hc, if_pos]
      simp only [Bool.or_eq_true, decide_eq_true_eq]
      omega
    · rw [if_neg hc, if_neg]
      simp only [Bool.or_eq_true, decide_eq_true_eq]
      omega
  rw [hR]
  clear hR
  have hgood : b1 = false → b2 = false → b3 = false → Calls Tryz.prog 16 #[.agg #[.int .i64 s, .string ⟨b.toArray⟩]] w fun e w' => e = .returned (.tuple #[.string ⟨(respText ⟨s, b⟩).toArray⟩, .int .i64 0]) ∧ Pur w w' := by
    rintro rfl rfl rfl
    have hW1 := hW.pur ((Pur.refl w).alloc (.cells #[.int .i64 s, .string ⟨b.toArray⟩] 31))
    have c0 : ∀ x : PW (w.alloc (.cells #[.int .i64 s, .string ⟨b.toArray⟩] 31)), x.to.cell? ⟨w.heap.size, 0, none⟩ = some (.int .i64 s) := fun x => (x.pur.cell (by simp)).trans (by simp)
    have c1 : ∀ x : PW (w.alloc (.cells #[.int .i64 s, .string ⟨b.toArray⟩] 31)), x.to.cell? ⟨w.heap.size, 1, none⟩ = some (.string ⟨b.toArray⟩) := fun x => (x.pur.cell (by simp)).trans (by simp)
    have I1 := fun (x : PW (w.alloc (.cells #[.int .i64 s, .string ⟨b.toArray⟩] 31))) => itoa_any s x.to (hW1.pur x.pur) h0 h1
    have I2 := fun (x : PW (w.alloc (.cells #[.int .i64 s, .string ⟨b.toArray⟩] 31))) => itoa_any (b.length : Int) x.to (hW1.pur x.pur) (by omega) (by omega)
    have l1 := itoa_len s h0 h1
    have l2 := itoa_len (b.length : Int) (by omega) (by omega)
    have l3 := reason_len s
    have hT : respText ⟨s, b⟩ = vHttp ++ [32] ++ Lib.itoa s ++ [32] ++ reason s ++ crlf ++ tLength ++ Lib.itoa b.length ++ crlf2 ++ b := rfl
    rw [hT]
    have RS := fun wx => reason_any s wx
    generalize reason s = rs at *
    generalize Lib.itoa s = is at *
    generalize Lib.itoa (b.length : Int) = ib at *
    clear hT h0 h1
    go_enter Tryz.func16, Tryz.ntmps16
    go_wp2
    refine wp_region_pur (by kernel_rfl) (by kernel_rfl) ?_
    repeat (first | (quiet_step ((first | (go_at_call 29; first | with_reducible exact quiet_pur (I1 _) | with_reducible exact quiet_pur (I2 _)) | (go_at_call 31; exact quiet_eq (RS _))))) | (refine wpQuiet_step (fun K hK => ?_); go_simp; apply Exists.intro; refine ⟨fun _ => ?_, hK _ ?_⟩; (rw [if_neg (by omega)]; exact ⟨rfl, rfl⟩); clear hK K))
    refine wpQuiet_nil ?_
    intro wq hq
    go_wp2
    go_ret2
    exact ⟨by simp [vHttp, crlf, crlf2, tLength], ((Pur.refl w).alloc _).trans hq⟩
  rcases b1 with _ | _ <;> rcases b2 with _ | _ <;> rcases b3 with _ | _
  rotate_left
  all_goals
    first
    | exact hgood rfl rfl rfl
    | (clear hgood
       simp only [Bool.or_true, Bool.or_false, Bool.true_or, Bool.false_or, if_true]
       go_enter Tryz.func16, Tryz.ntmps16
       go_wp2
       go_ret2
       exact ⟨rfl, (Pur.refl w).alloc _⟩)
end Go.Proofs.YtlgdkaeiadhiaaaGreatDoor
