/- A response read. -/
import Derived.Test.YtlgdkaeiadhiaaaGreatDoorHt11
import Derived.Test.YtlgdkaeiadhiaaaGreatDoorHt15
namespace Go.Proofs.YtlgdkaeiadhiaaaGreatDoor
open Go Go.RowKit
set_option linter.all false
set_option maxRecDepth 100000 in
set_option maxHeartbeats 1000000 in
theorem readresp_err (b : Bytes) (w : World) (hW : HW w) (hs : b.length ≤ 10000000) (n : Int) (hm : readMsg (fun s => (statusOf s).isSome) false b = (none, n)) :
    Calls Tryz.prog 12 #[.string ⟨b.toArray⟩] w fun e w' => e = .returned (.tuple #[.agg #[.int .i64 0, .string ⟨#[]⟩], .int .i64 0, .int .i64 n]) ∧ Pur w w' := by
  have R := fun w hW => readp_any b w hW hs
  rw [hm] at R
  clear hm
  go_enter Tryz.func12, Tryz.ntmps12
  go_wp2_with fail
  refine (R _ (hW.pur ((Pur.refl w).alloc _))).mono ?_
  rintro e w1 ⟨rfl, h1⟩
  clear R
  go_wp2_with fail
  refine (number_any n _ (hW.pur (((Pur.refl w).alloc _).trans h1))).mono ?_
  rintro e w2 ⟨rfl, h2⟩
  have hB := bk_pur (bk_new w _) (h1.trans h2)
  have hp := ((Pur.refl w).alloc _).trans (h1.trans h2)
  obtain ⟨c0, c1, f0, f1⟩ := blk2 hB
  have z := bk_lt hB
  have K := Lib.hid hp
  clear hB hp h1 h2 hW
  go_wp2
  refine bodyPost_ret (v := .tuple #[.agg #[.int .i64 0, .string ⟨#[]⟩], .int .i64 0, .int .i64 n]) (by simp [results, Tryz.results12, go_sem, set_read, c0, c1]) rfl ⟨rfl, ?_⟩
  have hpu := K.out
  repeat (first | with_reducible exact hpu | refine Pur.setCell ?_ (Nat.le_refl _) _)
set_option maxRecDepth 100000 in
set_option maxHeartbeats 1000000 in
theorem readresp_good (b : Bytes) (w : World) (hW : HW w) (hs : b.length ≤ 10000000) (first body : Bytes) (heads : List Fld) (st : Int) (n : Nat) (e0 : Int) (hm : readMsg (fun s => (statusOf s).isSome) false b = (some ⟨first, heads, body, n⟩, e0)) (hl : statusOf first = some st) (hf : first.length ≤ 100000000) (hn : n ≤ 100000000) :
    Calls Tryz.prog 12 #[.string ⟨b.toArray⟩] w fun e w' => e = .returned (.tuple #[.agg #[.int .i64 st, .string ⟨body.toArray⟩], .int .i64 (n : Nat), .int .i64 0]) ∧ Pur w w' := by
  have R := fun w hW => readp_any b w hW hs
  rw [hm] at R
  have RL := fun w => status_any first w hf
  have e2 : stv first = (st, true) := by unfold stv; rw [hl]
  rw [e2] at RL
  simp only at RL
  clear hm hl e2 hf hs
  go_enter Tryz.func12, Tryz.ntmps12
  go_wp2_with fail
  refine (R _ (hW.pur ((Pur.refl w).alloc _))).mono ?_
  rintro e w1 ⟨g, v, rfl, hB, hF, hle, h1⟩
  simp only at hB hF hle
  have hres := bk_pur (bk_new w _) h1
  have hp := ((Pur.refl w).alloc _).trans h1
  have hg0 : w.heap.size ≠ g := fun e => by rw [e, hB] at hres; simp at hres
  have q0 := (blk4 hB).1
  clear R hW h1
  have zg1 := bk_lt hB
  go_wp2_with fail
  refine (RL _).mono ?_
  rintro e w2 ⟨rfl, h2⟩
  clear q0 zg1
  obtain ⟨q0, q1, q2, q3, -, -, -, -⟩ := blk4 (bk_pur hB h2)
  obtain ⟨c0, c1, f0, f1⟩ := blk2 (bk_pur hres h2)
  have zg := bk_lt (bk_pur hB h2)
  have z1 : w.heap.size < w2.heap.size := bk_lt (bk_pur hres h2)
  have K := Lib.hid (hp.trans h2)
  clear hB hres hp h2 RL
  go_wp2
  go_region_held3 (fun w' => w'.frozen? ⟨w.heap.size, 0, none⟩ = false ∧ w'.cell? ⟨g, 2, none⟩ = some (.string ⟨body.toArray⟩) ∧ w'.cell? ⟨g, 3, none⟩ = some (.int .i64 n))
    (first
      | (go_keep; done)
      | (go_split_ands
         refine ⟨?_, ?_, ?_⟩
         · (go_keep; done)
         all_goals (first | (go_keep; done) | (repeat rw [set_blk (by omega)]; first | assumption | (simp only [World.cell?_drew]; assumption)))))
    (fail)
  all_goals
    go_wp2
    refine bodyPost_ret (v := .tuple #[.agg #[.int .i64 st, .string ⟨body.toArray⟩], .int .i64 (n : Nat), .int .i64 0]) (by simp [results, Tryz.results12, go_sem, set_read, c0, c1]) rfl ⟨rfl, ?_⟩
    have hpu := K.out
    repeat (first | with_reducible exact hpu | with_reducible refine Pur.drew ?_ | with_reducible refine Pur.setCell ?_ (Nat.le_refl _) _)
theorem readresp_any (b : Bytes) (w : World) (hW : HW w) (hs : b.length ≤ 10000000) :
    Calls Tryz.prog 12 #[.string ⟨b.toArray⟩] w fun e w' => e = .returned (.tuple #[respV (readResp b).1, .int .i64 ((readResp b).2.1 : Nat), .int .i64 (readResp b).2.2]) ∧ Pur w w' := by
  rcases hm : readMsg (fun s => (statusOf s).isSome) false b with ⟨_ | m, e0⟩
  · have e : readResp b = (Resp.zero, 0, e0) := by unfold readResp; rw [hm]
    rw [e]
    exact readresp_err b w hW hs e0 hm
  · obtain ⟨k, size, h0, h1, h2, h3, h4, h5, h6, h7, h8, h9, h10, h11⟩ := readMsg_some hm
    have hlen := readMsg_len hm
    have hf : m.first.length ≤ 100000000 := by
      have hj := congrArg List.length (pcs_join (by_ := crlf) _ (b.take k) (Nat.le_refl _))
      rw [← h8, List.length_append, List.length_take] at hj
      omega
    rw [← h8] at h2
    cases hl : statusOf m.first with
    | none => rw [hl] at h2; cases h2
    | some st =>
      have e : readResp b = (⟨st, m.body⟩, m.n, 0) := by unfold readResp; rw [hm]; simp only [hl, Option.getD_some]
      rw [e]
      obtain ⟨first, heads, body, n⟩ := m
      exact readresp_good b w hW hs first body heads st n e0 hm hl hf (by simp only at hlen; omega)
end Go.Proofs.YtlgdkaeiadhiaaaGreatDoor
