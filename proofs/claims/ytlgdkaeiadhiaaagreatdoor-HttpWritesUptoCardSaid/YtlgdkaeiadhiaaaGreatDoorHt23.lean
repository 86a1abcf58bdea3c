/- The document's ReadRequest and ReadResponse. -/
import Derived.Test.YtlgdkaeiadhiaaaGreatDoorHt14
import Derived.Test.YtlgdkaeiadhiaaaGreatDoorHt14p
import Derived.Test.YtlgdkaeiadhiaaaGreatDoorHt17
import Derived.Deep.RegionLaw
namespace Go.Proofs.YtlgdkaeiadhiaaaGreatDoor
open Go Go.RowKit
set_option linter.all false
set_option maxRecDepth 100000 in
set_option maxHeartbeats 2000000 in
theorem rreadreq_err (b : Bytes) (w : World) (hs : b.length ≤ 10000000) (n : Int) (hn : n ≠ 0) (hm : readMsg (fun s => (reqLine s).isSome) true b = (none, n)) :
    Calls Tryz.prog 11 #[.string ⟨b.toArray⟩] w fun e w' => e = .returned (.tuple #[.agg #[.string ⟨#[]⟩, .string ⟨#[]⟩, .string ⟨#[]⟩, .string ⟨#[]⟩, .string ⟨#[]⟩], .int .i64 0, .int .i64 n]) ∧ Pur w w' := by
  have R := fun w => rreadq_any b w hs
  rw [hm] at R
  have y0 : (n != 0) = true := by simpa using hn
  clear hm hn
  go_enter Tryz.func11, Tryz.ntmps11
  go_wp2_with fail
  refine (R _).mono ?_
  rintro e w1 ⟨rfl, h1⟩
  have hB := bk_pur (bk_new w _) h1
  have hp := ((Pur.refl w).alloc _).trans h1
  obtain ⟨c0, c1, c2, c3, c4, f0, f1, f2, f3, f4⟩ := blk5 hB
  have z := bk_lt hB
  have K := Lib.hid hp
  clear hB hp h1 R
  simp only [zeroM]
  go_wp2
  refine bodyPost_ret (v := .tuple #[.agg #[.string ⟨#[]⟩, .string ⟨#[]⟩, .string ⟨#[]⟩, .string ⟨#[]⟩, .string ⟨#[]⟩], .int .i64 0, .int .i64 n]) (by simp [results, Tryz.results11, go_sem, set_read, World.cell?_alloc_lt, z, c0, c1, c2, c3, c4]) rfl ⟨rfl, ?_⟩
  have hpu := K.out
  repeat (first | with_reducible exact hpu | with_reducible refine Pur.setCell ?_ (Nat.le_refl _) _ | with_reducible refine Pur.alloc ?_ _)
set_option maxRecDepth 100000 in
set_option maxHeartbeats 2000000 in
theorem rreadresp_err (b : Bytes) (w : World) (hs : b.length ≤ 10000000) (n : Int) (hn : n ≠ 0) (hm : readMsg (fun s => (statusOf s).isSome) false b = (none, n)) :
    Calls Tryz.prog 13 #[.string ⟨b.toArray⟩] w fun e w' => e = .returned (.tuple #[.agg #[.int .i64 0, .string ⟨#[]⟩], .int .i64 0, .int .i64 n]) ∧ Pur w w' := by
  have R := fun w => rreadp_any b w hs
  rw [hm] at R
  have y0 : (n != 0) = true := by simpa using hn
  clear hm hn
  go_enter Tryz.func13, Tryz.ntmps13
  go_wp2_with fail
  refine (R _).mono ?_
  rintro e w1 ⟨rfl, h1⟩
  have hB := bk_pur (bk_new w _) h1
  have hp := ((Pur.refl w).alloc _).trans h1
  obtain ⟨c0, c1, f0, f1⟩ := blk2 hB
  have z := bk_lt hB
  have K := Lib.hid hp
  clear hB hp h1 R
  simp only [zeroM]
  go_wp2
  refine bodyPost_ret (v := .tuple #[.agg #[.int .i64 0, .string ⟨#[]⟩], .int .i64 0, .int .i64 n]) (by simp [results, Tryz.results13, go_sem, set_read, World.cell?_alloc_lt, z, c0, c1]) rfl ⟨rfl, ?_⟩
  have hpu := K.out
  repeat (first | with_reducible exact hpu | with_reducible refine Pur.setCell ?_ (Nat.le_refl _) _ | with_reducible refine Pur.alloc ?_ _)
set_option maxRecDepth 100000 in
set_option maxHeartbeats 2000000 in
theorem rreadreq_good (b : Bytes) (w : World) (hs : b.length ≤ 10000000) (first body me ta : Bytes) (heads : List Fld) (n : Nat) (e0 : Int) (hm : readMsg (fun s => (reqLine s).isSome) true b = (some ⟨first, heads, body, n⟩, e0)) (hl : reqLine first = some (me, ta)) (hf : first.length ≤ 100000000) :
    Calls Tryz.prog 11 #[.string ⟨b.toArray⟩] w fun e w' => e = .returned (.tuple #[.agg #[.string ⟨me.toArray⟩, .string ⟨ta.toArray⟩, .string ⟨(fst' heads nHost).toArray⟩, .string ⟨(fst' heads nType).toArray⟩, .string ⟨body.toArray⟩], .int .i64 (n : Nat), .int .i64 0]) ∧ Pur w w' := by
  have R := fun w => rreadq_any b w hs
  rw [hm] at R
  have RL := fun w => rreqline_any first w hf
  have e2 : rl first = (me, ta, true) := by unfold rl; rw [hl]
  rw [e2] at RL
  simp only at RL
  have CH := fun x0 v x2 x3 wx hx hl => rcount_any x0 x2 x3 heads v nHost wx hx hl
  have CT := fun x0 v x2 x3 wx hx hl => rcount_any x0 x2 x3 heads v nType wx hx hl
  generalize fst' heads nHost = host at *
  generalize fst' heads nType = typ at *
  generalize cnt heads nHost = k1 at *
  generalize cnt heads nType = k2 at *
  clear hm hl e2 hf hs
  go_enter Tryz.func11, Tryz.ntmps11
  go_wp2_with fail
  refine (R _).mono ?_
  rintro e w1 ⟨v, rfl, hF, hle, h1⟩
  simp only at hF hle
  obtain ⟨av, cv, rfl, -⟩ := id hF
  have hres := bk_pur (bk_new w _) h1
  have hp := ((Pur.refl w).alloc _).trans h1
  have hle : heads.length ≤ 1000000 := by omega
  have z0 := bk_lt hres
  clear R h1
  go_wp2_with fail
  refine (RL _).mono ?_
  rintro e w2 ⟨rfl, h2⟩
  have hM2 := bk_pur (bk_new w1 _) h2
  have k12 := ((Pur.refl w1).alloc _).trans h2
  obtain ⟨q0, q1, q2, q3, -, -, -, -⟩ := blk4 hM2
  go_wp2_with fail
  refine (CH _ _ _ _ _ (hF.pur k12) hle).mono ?_
  rintro e w3 ⟨rfl, h3⟩
  have hM3 := bk_pur hM2 h3
  have k13 := k12.trans h3
  clear q0 q1 q2 q3 hM2 h2 RL CH
  obtain ⟨q0, q1, q2, q3, -, -, -, -⟩ := blk4 hM3
  go_wp2_with fail
  refine (CT _ _ _ _ _ (hF.pur k13) hle).mono ?_
  rintro e w4 ⟨rfl, h4⟩
  have hM4 := bk_pur hM3 h4
  have k14 := k13.trans h4
  clear q0 q1 q2 q3 hM3 h3 CT
  obtain ⟨q0, q1, q2, q3, -, -, -, -⟩ := blk4 hM4
  obtain ⟨c0, c1, c2, c3, c4, f0, f1, f2, f3, f4⟩ := blk5 (bk_pur hres k14)
  have z1 : w.heap.size < w4.heap.size := bk_lt (bk_pur hres k14)
  have hne : w.heap.size ≠ w1.heap.size := by omega
  have K := Lib.hid (hp.trans k14)
  clear hM4 h4 k14 k13 k12 hres hp hF
  go_wp2
  go_region_held3 (fun w' => w'.frozen? ⟨w.heap.size, 0, none⟩ = false ∧ w'.cell? ⟨w1.heap.size, 2, none⟩ = some (.string ⟨body.toArray⟩) ∧ w'.cell? ⟨w1.heap.size, 3, none⟩ = some (.int .i64 n))
    (first
      | (go_keep; done)
      | (go_split_ands
         refine ⟨?_, ?_, ?_⟩
         · (go_keep; done)
         all_goals (first | (go_keep; done) | (repeat rw [set_blk (by omega)]; first | assumption | (simp only [World.cell?_drew]; assumption)))))
    (fail)
  all_goals
    go_wp2
    refine bodyPost_ret (v := .tuple #[.agg #[.string ⟨me.toArray⟩, .string ⟨ta.toArray⟩, .string ⟨host.toArray⟩, .string ⟨typ.toArray⟩, .string ⟨body.toArray⟩], .int .i64 (n : Nat), .int .i64 0]) (by simp [results, Tryz.results11, go_sem, set_read, c0, c1, c2, c3, c4]) rfl ⟨rfl, ?_⟩
    have hpu := K.out
    repeat (first | with_reducible exact hpu | with_reducible refine Pur.drew ?_ | with_reducible refine Pur.setCell ?_ (Nat.le_refl _) _)
set_option maxRecDepth 100000 in
set_option maxHeartbeats 2000000 in
theorem rreadresp_good (b : Bytes) (w : World) (hs : b.length ≤ 10000000) (first body : Bytes) (heads : List Fld) (st : Int) (n : Nat) (e0 : Int) (hm : readMsg (fun s => (statusOf s).isSome) false b = (some ⟨first, heads, body, n⟩, e0)) (hl : statusOf first = some st) (hf : first.length ≤ 100000000) :
    Calls Tryz.prog 13 #[.string ⟨b.toArray⟩] w fun e w' => e = .returned (.tuple #[.agg #[.int .i64 st, .string ⟨body.toArray⟩], .int .i64 (n : Nat), .int .i64 0]) ∧ Pur w w' := by
  have R := fun w => rreadp_any b w hs
  rw [hm] at R
  have RL := fun w => rstatus_any first w hf
  have e2 : stn first = st := by unfold stn; rw [hl]
  rw [e2] at RL
  clear hm hl e2 hf hs
  go_enter Tryz.func13, Tryz.ntmps13
  go_wp2_with fail
  refine (R _).mono ?_
  rintro e w1 ⟨v, rfl, hF, hle, h1⟩
  simp only at hF hle
  obtain ⟨av, cv, rfl, -⟩ := id hF
  have hres := bk_pur (bk_new w _) h1
  have hp := ((Pur.refl w).alloc _).trans h1
  have z0 := bk_lt hres
  have hne : w.heap.size ≠ w1.heap.size := by omega
  clear R h1 hF
  obtain ⟨c0, c1, f0, f1⟩ := blk2 hres
  have K := Lib.hid hp
  clear hp hres
  go_wp2
  go_region_law (first | (go_simp; go_at_call 28; refine (RL _).mono ?_; rintro e w' ⟨rfl, rfl⟩))
  all_goals
    go_wp2
    refine bodyPost_ret (v := .tuple #[.agg #[.int .i64 st, .string ⟨body.toArray⟩], .int .i64 (n : Nat), .int .i64 0]) (by simp [results, Tryz.results13, go_sem, set_read, World.cell?_alloc_lt, z0, c0, c1]) rfl ⟨rfl, ?_⟩
    have hpu := K.out
    repeat (first | with_reducible exact hpu | with_reducible refine Pur.drew ?_ | with_reducible refine Pur.alloc ?_ _ | with_reducible refine Pur.setCell ?_ (Nat.le_refl _) _)
theorem readMsg_err0 {right : Bytes → Bool} {hosts : Bool} {b : Bytes} {n : Int} (h : readMsg right hosts b = (none, n)) : n ≠ 0 := by
  have := readMsg_err (right := right) (hosts := hosts) (b := b) (by rw [h])
  rw [h] at this
  simp only at this
  omega
theorem rreadreq_any (b : Bytes) (w : World) (hs : b.length ≤ 10000000) :
    Calls Tryz.prog 11 #[.string ⟨b.toArray⟩] w fun e w' => e = .returned (.tuple #[reqV (readReq b).1, .int .i64 ((readReq b).2.1 : Nat), .int .i64 (readReq b).2.2]) ∧ Pur w w' := by
  rcases hm : readMsg (fun s => (reqLine s).isSome) true b with ⟨_ | m, e0⟩
  · have e : readReq b = (Req.zero, 0, e0) := by unfold readReq; rw [hm]
    rw [e]
    exact rreadreq_err b w hs e0 (readMsg_err0 hm) hm
  · obtain ⟨k, size, h0, h1, h2, h3, h4, h5, h6, h7, h8, h9, h10, h11⟩ := readMsg_some hm
    have hf : m.first.length ≤ 100000000 := by
      have hj := congrArg List.length (pcs_join (by_ := crlf) _ (b.take k) (Nat.le_refl _))
      rw [← h8, List.length_append, List.length_take] at hj
      omega
    rw [← h8] at h2
    cases hl : reqLine m.first with
    | none => rw [hl] at h2; cases h2
    | some p =>
      obtain ⟨me, ta⟩ := p
      have e : readReq b = (⟨me, ta, fst' m.heads nHost, fst' m.heads nType, m.body⟩, m.n, 0) := by unfold readReq; rw [hm]; simp only [hl]
      rw [e]
      obtain ⟨first, heads, body, n⟩ := m
      exact rreadreq_good b w hs first body me ta heads n e0 hm hl hf
theorem rreadresp_any (b : Bytes) (w : World) (hs : b.length ≤ 10000000) :
    Calls Tryz.prog 13 #[.string ⟨b.toArray⟩] w fun e w' => e = .returned (.tuple #[respV (readResp b).1, .int .i64 ((readResp b).2.1 : Nat), .int .i64 (readResp b).2.2]) ∧ Pur w w' := by
  rcases hm : readMsg (fun s => (statusOf s).isSome) false b with ⟨_ | m, e0⟩
  · have e : readResp b = (Resp.zero, 0, e0) := by unfold readResp; rw [hm]
    rw [e]
    exact rreadresp_err b w hs e0 (readMsg_err0 hm) hm
  · obtain ⟨k, size, h0, h1, h2, h3, h4, h5, h6, h7, h8, h9, h10, h11⟩ := readMsg_some hm
    have hf : m.first.length ≤ 100000000 := by
      have hj := congrArg List.length (pcs_join (by_ := crlf) _ (b.take k) (Nat.le_refl _))
      rw [← h8, List.length_append, List.length_take] at hj
      omega
    rw [← h8] at h2
    cases hl : statusOf m.first with
    | none => rw [hl] at h2; cases h2
    | some st =>
      have e : readResp b = (⟨st, m.body⟩, m.n, 0) := by unfold readResp; rw [hm]; simp only [hl, Option.getD_some]
      rw [e]
      obtain ⟨first, heads, body, n⟩ := m
      exact rreadresp_good b w hs first body heads st n e0 hm hl hf
end Go.Proofs.YtlgdkaeiadhiaaaGreatDoor
