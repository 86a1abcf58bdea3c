/- The document's WriteRequest and WriteResponse. -/
import Derived.Test.YtlgdkaeiadhiaaaGreatDoorHt18
import Derived.Test.YtlgdkaeiadhiaaaGreatDoorHt23
import Derived.Test.YtlgdkaeiadhiaaaGreatDoorDig
namespace Go.Proofs.YtlgdkaeiadhiaaaGreatDoor
open Go Go.RowKit
set_option linter.all false
set_option maxRecDepth 100000 in
set_option maxHeartbeats 4000000 in
theorem rwritereq_any (r : Req) (w : World) (hr : rsize r ≤ 2000000) :
    Calls Tryz.prog 15 #[reqV r] w fun e w' => e = .returned (.tuple #[.string ⟨(writeReq r).1.toArray⟩, .int .i64 (writeReq r).2]) ∧ Pur w w' := by
  have hl := reqText_len r hr
  have RD := fun wx => rreadreq_any (reqText r) wx (by omega)
  have hwr : writeReq r = if readReq (reqText r) = (r, (reqText r).length, 0) then (reqText r, 0) else ([], 1) := rfl
  rw [hwr]
  clear hwr
  have I2 := fun wx => rdigits_any (r.body.length : Int) wx (by unfold rsize at hr; omega) (by unfold rsize at hr; omega)
  have l2 := itoa_len (r.body.length : Int) (by unfold rsize at hr; omega) (by unfold rsize at hr; omega)
  have hT : reqText r = r.method ++ [32] ++ r.target ++ 32 :: vHttp ++ crlf ++ tHost ++ r.host ++ crlf ++ (if r.type = [] then [] else tType ++ r.type ++ crlf) ++ tLength ++ Lib.itoa r.body.length ++ crlf2 ++ r.body := rfl
  generalize readReq (reqText r) = rd at *
  generalize reqText r = s at *
  generalize Lib.itoa (r.body.length : Int) = ib at *
  obtain ⟨m, t, h, y, b⟩ := r
  simp only [reqV, rsize] at *
  obtain ⟨⟨m', t', h', y', b'⟩, n', e'⟩ := rd
  obtain ⟨b1, t1⟩ : ∃ b1, (e' != 0) = b1 := ⟨_, rfl⟩
  obtain ⟨b2, t2⟩ : ∃ b2, (((n' : Nat) : Int) != ((s.length : Nat) : Int)) = b2 := ⟨_, rfl⟩
  obtain ⟨b3, t3⟩ : ∃ b3, reqEq ⟨m', t', h', y', b'⟩ ⟨m, t, h, y, b⟩ = b3 := ⟨_, rfl⟩
  have hR : (if ((⟨m', t', h', y', b'⟩ : Req), n', e') = (⟨m, t, h, y, b⟩, s.length, 0) then ((s : Bytes), (0 : Int)) else ([], 1)) = if b1 || b2 || !b3 then ([], 1) else (s, 0) := by
    subst t1 t2 t3
    unfold reqEq
    by_cases h1 : e' = 0
    · by_cases h2 : n' = s.length
      · by_cases h3 : (⟨m', t', h', y', b'⟩ : Req) = ⟨m, t, h, y, b⟩
        · rw [if_pos (by rw [h1, h2, h3]), decide_eq_true h3, h1, h2]; simp
        · rw [if_neg (fun e => h3 (congrArg Prod.fst e)), decide_eq_false h3]; simp
      · rw [if_neg (fun e => h2 (congrArg (fun x => x.2.1) e)), if_pos]
        have : (((n' : Nat) : Int) != ((s.length : Nat) : Int)) = true := by simp only [bne_iff_ne, ne_eq]; omega
        rw [this]; simp
    · rw [if_neg (fun e => h1 (congrArg (fun x => x.2.2) e)), if_pos]
      have : (e' != 0) = true := by simpa using h1
      rw [this]; simp
  rw [hR]
  clear hR
  have c4 : ∀ x : PW (w.alloc (.cells #[.string ⟨m.toArray⟩, .string ⟨t.toArray⟩, .string ⟨h.toArray⟩, .string ⟨y.toArray⟩, .string ⟨b.toArray⟩] 24)), x.to.cell? ⟨w.heap.size, 4, none⟩ = some (.string ⟨b.toArray⟩) := fun x => (x.pur.cell (by simp)).trans (by simp)
  have I1 := fun (x : PW (w.alloc (.cells #[.string ⟨m.toArray⟩, .string ⟨t.toArray⟩, .string ⟨h.toArray⟩, .string ⟨y.toArray⟩, .string ⟨b.toArray⟩] 24))) => I2 x.to
  clear I2
  have HT := Lib.hid hT
  have T1 := Lib.hid t1
  have T2 := Lib.hid t2
  have T3 := Lib.hid t3
  clear hT t1 t2 t3
  by_cases hy : y = []
  · subst hy
    have HS := Lib.hid (HT.out.trans (by rw [if_pos rfl]))
    clear HT
    go_enter Tryz.func15, Tryz.ntmps15
    go_upto_region 4 with (fail)
    go_cut [4] from 8 to 58 (fun u wx => u = .string ⟨s.toArray⟩ ∧ ReqBlk w wx m t h [] b ∧ Pur w wx)
    case first =>
      clear RD T1 T2 T3
      refine wp_region_pur (by kernel_rfl) (by kernel_rfl) ?_
      repeat (first | (quiet_step ((first | (go_at_call 30; with_reducible exact quiet_pur (I1 _))))) | (refine wpQuiet_step (fun K hK => ?_); go_simp; apply Exists.intro; refine ⟨fun _ => ?_, hK _ ?_⟩; (rw [if_neg (by omega)]; exact ⟨rfl, rfl⟩); clear hK K))
      refine wpQuiet_nil ?_
      intro wq hq
      go_wp2
      go_meet
      refine ⟨?_, bk_pur (bk_new w _) hq, ((Pur.refl w).alloc _).trans hq⟩
      rw [HS.out]
      simp [vHttp, crlf, crlf2, tLength, tHost]
    case rest =>
      obtain ⟨rfl, hB, hp⟩ := hcut
      clear HS I1 c4
      have hBc := hB
      obtain ⟨q0, q1, q2, q3, q4, -, -, -, -, -⟩ := blk5 hB
      go_wp2_with fail
      refine (RD _).mono ?_
      rintro e wr ⟨rfl, hpr⟩
      have t1 := T1.out
      have t2 := T2.out
      have t3 := T3.out
      clear q0 q1 q2 q3 q4 T1 T2 T3 RD
      obtain ⟨q0, q1, q2, q3, q4, -, -, -, -, -⟩ := blk5 (bk_pur hBc hpr)
      have z := bk_lt (bk_pur hBc hpr)
      have K := Lib.hid (hp.trans hpr)
      clear hBc hB hp hpr
      rcases b1 with _ | _ <;> rcases b2 with _ | _ <;> rcases b3 with _ | _
      all_goals
        go_wp2
        go_ret2
        refine ⟨rfl, ?_⟩
        have hpu := K.out
        repeat (first | with_reducible exact hpu | with_reducible refine Pur.setCell ?_ (by simp) _ | with_reducible refine Pur.alloc ?_ _)
  · have HS := Lib.hid (HT.out.trans (by rw [if_neg hy]))
    have q0' := isEmpty_no hy
    have q0'' := beq_no hy
    clear HT hy
    go_enter Tryz.func15, Tryz.ntmps15
    go_upto_region 4 with (fail)
    go_cut [4] from 8 to 58 (fun u wx => u = .string ⟨s.toArray⟩ ∧ ReqBlk w wx m t h y b ∧ Pur w wx)
    case first =>
      clear RD T1 T2 T3
      refine wp_region_pur (by kernel_rfl) (by kernel_rfl) ?_
      repeat (first | (quiet_step ((first | (go_at_call 30; with_reducible exact quiet_pur (I1 _))))) | (refine wpQuiet_step (fun K hK => ?_); go_simp; apply Exists.intro; refine ⟨fun _ => ?_, hK _ ?_⟩; (rw [if_neg (by omega)]; exact ⟨rfl, rfl⟩); clear hK K))
      refine wpQuiet_nil ?_
      intro wq hq
      go_wp2
      go_meet
      refine ⟨?_, bk_pur (bk_new w _) hq, ((Pur.refl w).alloc _).trans hq⟩
      rw [HS.out]
      simp [vHttp, crlf, crlf2, tLength, tHost, tType]
    case rest =>
      obtain ⟨rfl, hB, hp⟩ := hcut
      clear HS I1 c4 q0' q0''
      have hBc := hB
      obtain ⟨q0, q1, q2, q3, q4, -, -, -, -, -⟩ := blk5 hB
      go_wp2_with fail
      refine (RD _).mono ?_
      rintro e wr ⟨rfl, hpr⟩
      have t1 := T1.out
      have t2 := T2.out
      have t3 := T3.out
      clear q0 q1 q2 q3 q4 T1 T2 T3 RD
      obtain ⟨q0, q1, q2, q3, q4, -, -, -, -, -⟩ := blk5 (bk_pur hBc hpr)
      have z := bk_lt (bk_pur hBc hpr)
      have K := Lib.hid (hp.trans hpr)
      clear hBc hB hp hpr
      rcases b1 with _ | _ <;> rcases b2 with _ | _ <;> rcases b3 with _ | _
      all_goals
        go_wp2
        go_ret2
        refine ⟨rfl, ?_⟩
        have hpu := K.out
        repeat (first | with_reducible exact hpu | with_reducible refine Pur.setCell ?_ (by simp) _ | with_reducible refine Pur.alloc ?_ _)
set_option maxRecDepth 100000 in
set_option maxHeartbeats 4000000 in
theorem rwriteresp_any (r : Resp) (w : World) (hb : r.body.length ≤ 100000000) (h0 : -9223372036854775808 ≤ r.status) (h1 : r.status ≤ 9223372036854775807) :
    Calls Tryz.prog 17 #[.agg #[.int .i64 r.status, .string ⟨r.body.toArray⟩]] w fun e w' => e = .returned (.tuple #[.string ⟨(writeResp r).1.toArray⟩, .int .i64 (writeResp r).2]) ∧ Pur w w' := by
  obtain ⟨s, b⟩ := r
  simp only at hb h0 h1
  obtain ⟨b1, t1⟩ : ∃ b1, decide (s < 100) = b1 := ⟨_, rfl⟩
  obtain ⟨b2, t2⟩ : ∃ b2, decide ((599 : Int) < s) = b2 := ⟨_, rfl⟩
  obtain ⟨b3, t3⟩ : ∃ b3, decide ((4096 : Int) < b.length) = b3 := ⟨_, rfl⟩
  have hR : writeResp ⟨s, b⟩ = if (b1 || b2 || b3) = true then ([], 1) else (respText ⟨s, b⟩, 0) := by
    subst t1 t2 t3
    unfold writeResp
    simp only
    by_cases hc : s < 100 ∨ 599 < s ∨ 4096 < b.length
    · rw [if_pos hc, if_pos]
      simp only [Bool.or_eq_true, decide_eq_true_eq]
      omega
    · rw [if_neg hc, if_neg]
      simp only [Bool.or_eq_true, decide_eq_true_eq]
      omega
  rw [hR]
  clear hR
  have hgood : b1 = false → b2 = false → b3 = false → Calls Tryz.prog 17 #[.agg #[.int .i64 s, .string ⟨b.toArray⟩]] w fun e w' => e = .returned (.tuple #[.string ⟨(respText ⟨s, b⟩).toArray⟩, .int .i64 0]) ∧ Pur w w' := by
    rintro rfl rfl rfl
    have c0 : ∀ x : PW (w.alloc (.cells #[.int .i64 s, .string ⟨b.toArray⟩] 31)), x.to.cell? ⟨w.heap.size, 0, none⟩ = some (.int .i64 s) := fun x => (x.pur.cell (by simp)).trans (by simp)
    have c1 : ∀ x : PW (w.alloc (.cells #[.int .i64 s, .string ⟨b.toArray⟩] 31)), x.to.cell? ⟨w.heap.size, 1, none⟩ = some (.string ⟨b.toArray⟩) := fun x => (x.pur.cell (by simp)).trans (by simp)
    have I1 := fun (x : PW (w.alloc (.cells #[.int .i64 s, .string ⟨b.toArray⟩] 31))) => rdigits_any s x.to h0 h1
    have I2 := fun (x : PW (w.alloc (.cells #[.int .i64 s, .string ⟨b.toArray⟩] 31))) => rdigits_any (b.length : Int) x.to (by omega) (by omega)
    have l1 := itoa_len s h0 h1
    have l2 := itoa_len (b.length : Int) (by omega) (by omega)
    have l3 := reason_len s
    have hT : respText ⟨s, b⟩ = vHttp ++ [32] ++ Lib.itoa s ++ [32] ++ reason s ++ crlf ++ tLength ++ Lib.itoa b.length ++ crlf2 ++ b := rfl
    rw [hT]
    obtain ⟨rs, hrs⟩ : ∃ rs, reason s = rs := ⟨_, rfl⟩
    rw [hrs] at l3 ⊢
    have HRS := Lib.hid hrs
    clear hrs
    generalize Lib.itoa s = is at *
    generalize Lib.itoa (b.length : Int) = ib at *
    clear hT h0 h1
    have hrs := HRS.out
    clear HRS
    unfold reason at hrs
    by_cases h0 : s = 200
    · rw [if_pos h0] at hrs
      subst h0 hrs
      focus
        go_enter Tryz.func17, Tryz.ntmps17
        go_wp2
        refine wp_region_pur (by kernel_rfl) (by kernel_rfl) ?_
        repeat (first | (quiet_step ((first | (go_at_call 30; first | with_reducible exact quiet_pur (I1 _) | with_reducible exact quiet_pur (I2 _))))) | (refine wpQuiet_step (fun K hK => ?_); go_simp; apply Exists.intro; refine ⟨fun _ => ?_, hK _ ?_⟩; (rw [if_neg (by omega)]; exact ⟨rfl, rfl⟩); clear hK K))
        refine wpQuiet_nil ?_
        intro wq hq
        go_wp2
        go_ret2
        exact ⟨by simp [vHttp, crlf, crlf2, tLength], ((Pur.refl w).alloc _).trans hq⟩
    rw [if_neg h0] at hrs
    by_cases h1 : s = 400
    · rw [if_pos h1] at hrs
      subst h1 hrs
      focus
        go_enter Tryz.func17, Tryz.ntmps17
        go_wp2
        refine wp_region_pur (by kernel_rfl) (by kernel_rfl) ?_
        repeat (first | (quiet_step ((first | (go_at_call 30; first | with_reducible exact quiet_pur (I1 _) | with_reducible exact quiet_pur (I2 _))))) | (refine wpQuiet_step (fun K hK => ?_); go_simp; apply Exists.intro; refine ⟨fun _ => ?_, hK _ ?_⟩; (rw [if_neg (by omega)]; exact ⟨rfl, rfl⟩); clear hK K))
        refine wpQuiet_nil ?_
        intro wq hq
        go_wp2
        go_ret2
        exact ⟨by simp [vHttp, crlf, crlf2, tLength], ((Pur.refl w).alloc _).trans hq⟩
    rw [if_neg h1] at hrs
    by_cases h2 : s = 404
    · rw [if_pos h2] at hrs
      subst h2 hrs
      focus
        go_enter Tryz.func17, Tryz.ntmps17
        go_wp2
        refine wp_region_pur (by kernel_rfl) (by kernel_rfl) ?_
        repeat (first | (quiet_step ((first | (go_at_call 30; first | with_reducible exact quiet_pur (I1 _) | with_reducible exact quiet_pur (I2 _))))) | (refine wpQuiet_step (fun K hK => ?_); go_simp; apply Exists.intro; refine ⟨fun _ => ?_, hK _ ?_⟩; (rw [if_neg (by omega)]; exact ⟨rfl, rfl⟩); clear hK K))
        refine wpQuiet_nil ?_
        intro wq hq
        go_wp2
        go_ret2
        exact ⟨by simp [vHttp, crlf, crlf2, tLength], ((Pur.refl w).alloc _).trans hq⟩
    rw [if_neg h2] at hrs
    by_cases h3 : s = 405
    · rw [if_pos h3] at hrs
      subst h3 hrs
      focus
        go_enter Tryz.func17, Tryz.ntmps17
        go_wp2
        refine wp_region_pur (by kernel_rfl) (by kernel_rfl) ?_
        repeat (first | (quiet_step ((first | (go_at_call 30; first | with_reducible exact quiet_pur (I1 _) | with_reducible exact quiet_pur (I2 _))))) | (refine wpQuiet_step (fun K hK => ?_); go_simp; apply Exists.intro; refine ⟨fun _ => ?_, hK _ ?_⟩; (rw [if_neg (by omega)]; exact ⟨rfl, rfl⟩); clear hK K))
        refine wpQuiet_nil ?_
        intro wq hq
        go_wp2
        go_ret2
        exact ⟨by simp [vHttp, crlf, crlf2, tLength], ((Pur.refl w).alloc _).trans hq⟩
    rw [if_neg h3] at hrs
    by_cases h4 : s = 413
    · rw [if_pos h4] at hrs
      subst h4 hrs
      focus
        go_enter Tryz.func17, Tryz.ntmps17
        go_wp2
        refine wp_region_pur (by kernel_rfl) (by kernel_rfl) ?_
        repeat (first | (quiet_step ((first | (go_at_call 30; first | with_reducible exact quiet_pur (I1 _) | with_reducible exact quiet_pur (I2 _))))) | (refine wpQuiet_step (fun K hK => ?_); go_simp; apply Exists.intro; refine ⟨fun _ => ?_, hK _ ?_⟩; (rw [if_neg (by omega)]; exact ⟨rfl, rfl⟩); clear hK K))
        refine wpQuiet_nil ?_
        intro wq hq
        go_wp2
        go_ret2
        exact ⟨by simp [vHttp, crlf, crlf2, tLength], ((Pur.refl w).alloc _).trans hq⟩
    rw [if_neg h4] at hrs
    subst hrs
    have d0 : (s == 200) = false := by simpa using h0
    have d1 : (s == 400) = false := by simpa using h1
    have d2 : (s == 404) = false := by simpa using h2
    have d3 : (s == 405) = false := by simpa using h3
    have d4 : (s == 413) = false := by simpa using h4
    clear h0 h1 h2 h3 h4
    focus
        go_enter Tryz.func17, Tryz.ntmps17
        go_wp2
        refine wp_region_pur (by kernel_rfl) (by kernel_rfl) ?_
        repeat (first | (quiet_step ((first | (go_at_call 30; first | with_reducible exact quiet_pur (I1 _) | with_reducible exact quiet_pur (I2 _))))) | (refine wpQuiet_step (fun K hK => ?_); go_simp; apply Exists.intro; refine ⟨fun _ => ?_, hK _ ?_⟩; (rw [if_neg (by omega)]; exact ⟨rfl, rfl⟩); clear hK K))
        refine wpQuiet_nil ?_
        intro wq hq
        go_wp2
        go_ret2
        exact ⟨by simp [vHttp, crlf, crlf2, tLength], ((Pur.refl w).alloc _).trans hq⟩
  rcases b1 with _ | _ <;> rcases b2 with _ | _ <;> rcases b3 with _ | _
  rotate_left
  all_goals
    first
    | exact hgood rfl rfl rfl
    | (clear hgood
       simp only [Bool.or_true, Bool.or_false, Bool.true_or, Bool.false_or, if_true]
       go_enter Tryz.func17, Tryz.ntmps17
       go_wp2
       go_ret2
       exact ⟨rfl, (Pur.refl w).alloc _⟩)
end Go.Proofs.YtlgdkaeiadhiaaaGreatDoor
