/- An error number; a request read. -/
import Derived.Test.YtlgdkaeiadhiaaaGreatDoorHt10
import Derived.Test.YtlgdkaeiadhiaaaGreatDoorHtAs
import Derived.Test.YtlgdkaeiadhiaaaGreatDoorHtEq
namespace Go.Proofs.YtlgdkaeiadhiaaaGreatDoor
open Go Go.RowKit
set_option linter.all false
set_option maxRecDepth 100000 in
set_option maxHeartbeats 4000000 in
theorem number_any (n : Int) (w : World) (hW : HW w) :
    Calls Tryz.prog 21 #[.iface 25 (.int .i64 n)] w fun e w' => e = .returned (.int .i64 n) ∧ Pur w w' := by
  have hg := hW.et
  rw [globs_size] at hg
  have A := as_hit n ⟨w.heap.size, 0, none⟩ (.int .i64 0) (w.alloc (.cells #[.int .i64 0] 25)) (cell_pur hg ((Pur.refl w).alloc _)) (by simp) (by simp)
  clear hg
  go_enter Tryz.func21, Tryz.ntmps21
  go_wp2_with fail
  refine A.mono ?_
  rintro e w1 ⟨rfl, o1, o2, o3, o4, rfl⟩
  clear A
  go_wp2
  go_ret
  refine ⟨rfl, ?_⟩
  exact (((((Pur.refl w).alloc _).alloc _).alloc _).alloc _).alloc _
theorem blk5 {w : World} {g : Nat} {t : TypeId} {c0 c1 c2 c3 c4 : Value} (h : w.heap[g]? = some (.cells #[c0, c1, c2, c3, c4] t (0, 0))) :
    w.cell? ⟨g, 0, none⟩ = some c0 ∧ w.cell? ⟨g, 1, none⟩ = some c1 ∧ w.cell? ⟨g, 2, none⟩ = some c2 ∧ w.cell? ⟨g, 3, none⟩ = some c3 ∧ w.cell? ⟨g, 4, none⟩ = some c4 ∧
    w.frozen? ⟨g, 0, none⟩ = false ∧ w.frozen? ⟨g, 1, none⟩ = false ∧ w.frozen? ⟨g, 2, none⟩ = false ∧ w.frozen? ⟨g, 3, none⟩ = false ∧ w.frozen? ⟨g, 4, none⟩ = false := by
  simp [World.cell?, World.frozen?, h]
theorem blk2 {w : World} {g : Nat} {t : TypeId} {c0 c1 : Value} (h : w.heap[g]? = some (.cells #[c0, c1] t (0, 0))) :
    w.cell? ⟨g, 0, none⟩ = some c0 ∧ w.cell? ⟨g, 1, none⟩ = some c1 ∧ w.frozen? ⟨g, 0, none⟩ = false ∧ w.frozen? ⟨g, 1, none⟩ = false := by
  simp [World.cell?, World.frozen?, h]
theorem set_read {w : World} {a : Addr} {v : Value} (h : (w.cell? a).isSome = true) : (w.setCell a v).cell? a = some v := by
  obtain ⟨u, hu⟩ := Option.isSome_iff_exists.1 h
  exact World.cell?_setCell_same _ _ _ hu
theorem set_off {w : World} {g i j : Nat} {v : Value} (h : i ≠ j) : (w.setCell ⟨g, i, none⟩ v).cell? ⟨g, j, none⟩ = w.cell? ⟨g, j, none⟩ :=
  World.cell?_setCell_other _ _ _ _ (fun e => h (by first | exact congrArg Addr.off e | exact (congrArg Addr.off e).symm))
theorem set_blk {w : World} {g g' i j : Nat} {v : Value} (h : g ≠ g') : (w.setCell ⟨g, i, none⟩ v).cell? ⟨g', j, none⟩ = w.cell? ⟨g', j, none⟩ :=
  World.cell?_setCell_other _ _ _ _ (fun e => h (by first | exact congrArg Addr.block e | exact (congrArg Addr.block e).symm))
/-- a block of five cells of which some have been written -/
theorem set5 {w : World} {g : Nat} {t : TypeId} {c0 c1 c2 c3 c4 : Value} (i : Nat) (v : Value) (h : w.heap[g]? = some (.cells #[c0, c1, c2, c3, c4] t (0, 0))) :
    (w.setCell ⟨g, i, none⟩ v).heap[g]? = some (.cells (#[c0, c1, c2, c3, c4].setIfInBounds i v) t (0, 0)) := heap_setCell_same w g i _ t v h
theorem set2 {w : World} {g : Nat} {t : TypeId} {c0 c1 : Value} (i : Nat) (v : Value) (h : w.heap[g]? = some (.cells #[c0, c1] t (0, 0))) :
    (w.setCell ⟨g, i, none⟩ v).heap[g]? = some (.cells (#[c0, c1].setIfInBounds i v) t (0, 0)) := heap_setCell_same w g i _ t v h
set_option maxRecDepth 100000 in
set_option maxHeartbeats 1000000 in
theorem readreq_err (b : Bytes) (w : World) (hW : HW w) (hs : b.length ≤ 10000000) (n : Int) (hm : readMsg (fun s => (reqLine s).isSome) true b = (none, n)) :
    Calls Tryz.prog 10 #[.string ⟨b.toArray⟩] w fun e w' => e = .returned (.tuple #[.agg #[.string ⟨#[]⟩, .string ⟨#[]⟩, .string ⟨#[]⟩, .string ⟨#[]⟩, .string ⟨#[]⟩], .int .i64 0, .int .i64 n]) ∧ Pur w w' := by
  have R := fun w hW => readq_any b w hW hs
  rw [hm] at R
  clear hm
  go_enter Tryz.func10, Tryz.ntmps10
  go_wp2_with fail
  refine (R _ (hW.pur ((Pur.refl w).alloc _))).mono ?_
  rintro e w1 ⟨rfl, h1⟩
  clear R
  go_wp2_with fail
  refine (number_any n _ (hW.pur (((Pur.refl w).alloc _).trans h1))).mono ?_
  rintro e w2 ⟨rfl, h2⟩
  have hB := bk_pur (bk_new w _) (h1.trans h2)
  have hp := ((Pur.refl w).alloc _).trans (h1.trans h2)
  obtain ⟨c0, c1, c2, c3, c4, f0, f1, f2, f3, f4⟩ := blk5 hB
  have z := bk_lt hB
  have K := Lib.hid hp
  clear hB hp h1 h2 hW
  go_wp2
  refine bodyPost_ret (v := .tuple #[.agg #[.string ⟨#[]⟩, .string ⟨#[]⟩, .string ⟨#[]⟩, .string ⟨#[]⟩, .string ⟨#[]⟩], .int .i64 0, .int .i64 n]) (by simp [results, Tryz.results10, go_sem, set_read, c0, c1, c2, c3, c4]) rfl ⟨rfl, ?_⟩
  have hpu := K.out
  repeat (first | with_reducible exact hpu | refine Pur.setCell ?_ (Nat.le_refl _) _)
set_option maxRecDepth 100000 in
set_option maxHeartbeats 1000000 in
theorem readreq_good (b : Bytes) (w : World) (hW : HW w) (hs : b.length ≤ 10000000) (first body me ta : Bytes) (heads : List Fld) (n : Nat) (e0 : Int) (hm : readMsg (fun s => (reqLine s).isSome) true b = (some ⟨first, heads, body, n⟩, e0)) (hl : reqLine first = some (me, ta)) (hf : first.length ≤ 100000000) (hn : n ≤ 100000000) :
    Calls Tryz.prog 10 #[.string ⟨b.toArray⟩] w fun e w' => e = .returned (.tuple #[.agg #[.string ⟨me.toArray⟩, .string ⟨ta.toArray⟩, .string ⟨(fst' heads nHost).toArray⟩, .string ⟨(fst' heads nType).toArray⟩, .string ⟨body.toArray⟩], .int .i64 (n : Nat), .int .i64 0]) ∧ Pur w w' := by
  have R := fun w hW => readq_any b w hW hs
  rw [hm] at R
  have RL := fun w hW => reqline_any first w hW hf
  have e2 : rl first = (me, ta, true) := by unfold rl; rw [hl]
  rw [e2] at RL
  simp only at RL
  have CH := fun g v wx q1 hx hl => count_any g heads v nHost wx q1 hx hl
  have CT := fun g v wx q1 hx hl => count_any g heads v nType wx q1 hx hl
  generalize fst' heads nHost = host at *
  generalize fst' heads nType = typ at *
  generalize cnt heads nHost = k1 at *
  generalize cnt heads nType = k2 at *
  clear hm hl e2 hf hs
  go_enter Tryz.func10, Tryz.ntmps10
  go_wp2_with fail
  refine (R _ (hW.pur ((Pur.refl w).alloc _))).mono ?_
  rintro e w1 ⟨g, v, rfl, hB, hF, hle, h1⟩
  simp only at hB hF hle
  have hres := bk_pur (bk_new w _) h1
  have hp := ((Pur.refl w).alloc _).trans h1
  have hW1 := hW.pur hp
  have hle : heads.length ≤ 1000000 := by omega
  have zg := bk_lt hB
  have hg0 : w.heap.size ≠ g := fun e => by rw [e, hB] at hres; simp at hres
  have z0 := bk_lt hres
  have q0 := (blk4 hB).1
  have q2 := (blk4 hB).2.2.1
  clear R hW h1
  go_wp2_with fail
  refine (RL _ ?hw).mono ?_
  case hw => exact hW1.pur (by repeat (first | with_reducible exact Pur.refl _ | refine Pur.setCell ?_ (Nat.le_refl _) _ | refine Pur.alloc ?_ _))
  rintro e w2 ⟨rfl, h2⟩
  have k2 : Pur w1 w2 := Pur.trans (by repeat (first | with_reducible exact Pur.refl _ | refine Pur.setCell ?_ (Nat.le_refl _) _ | refine Pur.alloc ?_ _)) h2
  have r0 : w2.cell? ⟨w1.heap.size, 0, none⟩ = some (.string ⟨#[]⟩) := ((h2).cell (p := ⟨w1.heap.size, 0, none⟩) (by first | (simp; done) | (simp; omega))).trans (by simp)
  have r1 : w2.cell? ⟨w1.heap.size, 1, none⟩ = some (.string ⟨#[]⟩) := ((h2).cell (p := ⟨w1.heap.size, 1, none⟩) (by first | (simp; done) | (simp; omega))).trans (by simp)
  have r2 : w2.cell? ⟨w1.heap.size, 2, none⟩ = some (.string ⟨#[]⟩) := ((h2).cell (p := ⟨w1.heap.size, 2, none⟩) (by first | (simp; done) | (simp; omega))).trans (by simp)
  have r3 : w2.cell? ⟨w1.heap.size, 3, none⟩ = some (.string ⟨#[]⟩) := ((h2).cell (p := ⟨w1.heap.size, 3, none⟩) (by first | (simp; done) | (simp; omega))).trans (by simp)
  have r4 : w2.cell? ⟨w1.heap.size, 4, none⟩ = some (.string ⟨body.toArray⟩) := ((h2).cell (p := ⟨w1.heap.size, 4, none⟩) (by first | (simp; done) | (simp; omega))).trans (by simp)
  have s0 : w2.frozen? ⟨w1.heap.size, 0, none⟩ = false := ((h2).frozen (p := ⟨w1.heap.size, 0, none⟩) (by first | (simp; done) | (simp; omega))).trans (by simp)
  have s1 : w2.frozen? ⟨w1.heap.size, 1, none⟩ = false := ((h2).frozen (p := ⟨w1.heap.size, 1, none⟩) (by first | (simp; done) | (simp; omega))).trans (by simp)
  have s2 : w2.frozen? ⟨w1.heap.size, 2, none⟩ = false := ((h2).frozen (p := ⟨w1.heap.size, 2, none⟩) (by first | (simp; done) | (simp; omega))).trans (by simp)
  have s3 : w2.frozen? ⟨w1.heap.size, 3, none⟩ = false := ((h2).frozen (p := ⟨w1.heap.size, 3, none⟩) (by first | (simp; done) | (simp; omega))).trans (by simp)
  have s4 : w2.frozen? ⟨w1.heap.size, 4, none⟩ = false := ((h2).frozen (p := ⟨w1.heap.size, 4, none⟩) (by first | (simp; done) | (simp; omega))).trans (by simp)
  clear h2 RL q0 q2
  have q1 := (blk4 hB).2.1
  have y2 : w1.heap.size < w2.heap.size := World.block_lt_of_cell? w2 _ r0
  go_wp2_with fail
  refine (CH g v _ ?q ?f hle).mono ?_
  case q => exact cell_pur q1 (by repeat (first | with_reducible exact k2 | refine Pur.setCell ?_ (Nat.le_refl _) _))
  case f => exact hF.pur (by repeat (first | with_reducible exact k2 | refine Pur.setCell ?_ (Nat.le_refl _) _))
  rintro e w3 ⟨rfl, h3⟩
  have k3 : Pur w1 w3 := Pur.trans (by repeat (first | with_reducible exact k2 | refine Pur.setCell ?_ (Nat.le_refl _) _)) h3
  have p0 : w3.cell? ⟨w1.heap.size, 0, none⟩ = some (.string ⟨me.toArray⟩) := ((h3).cell (p := ⟨w1.heap.size, 0, none⟩) (by first | (simp; done) | (simp; omega))).trans (by simp [set_read, set_off, r0, r1, r2, r3, r4, s0, s1, s2, s3, s4])
  have p1 : w3.cell? ⟨w1.heap.size, 1, none⟩ = some (.string ⟨ta.toArray⟩) := ((h3).cell (p := ⟨w1.heap.size, 1, none⟩) (by first | (simp; done) | (simp; omega))).trans (by simp [set_read, set_off, r0, r1, r2, r3, r4, s0, s1, s2, s3, s4])
  have p2 : w3.cell? ⟨w1.heap.size, 2, none⟩ = some (.string ⟨#[]⟩) := ((h3).cell (p := ⟨w1.heap.size, 2, none⟩) (by first | (simp; done) | (simp; omega))).trans (by simp [set_read, set_off, r0, r1, r2, r3, r4, s0, s1, s2, s3, s4])
  have p3 : w3.cell? ⟨w1.heap.size, 3, none⟩ = some (.string ⟨#[]⟩) := ((h3).cell (p := ⟨w1.heap.size, 3, none⟩) (by first | (simp; done) | (simp; omega))).trans (by simp [set_read, set_off, r0, r1, r2, r3, r4, s0, s1, s2, s3, s4])
  have p4 : w3.cell? ⟨w1.heap.size, 4, none⟩ = some (.string ⟨body.toArray⟩) := ((h3).cell (p := ⟨w1.heap.size, 4, none⟩) (by first | (simp; done) | (simp; omega))).trans (by simp [set_read, set_off, r0, r1, r2, r3, r4, s0, s1, s2, s3, s4])
  have t0 : w3.frozen? ⟨w1.heap.size, 0, none⟩ = false := ((h3).frozen (p := ⟨w1.heap.size, 0, none⟩) (by first | (simp; done) | (simp; omega))).trans (by simp [set_read, set_off, r0, r1, r2, r3, r4, s0, s1, s2, s3, s4])
  have t1 : w3.frozen? ⟨w1.heap.size, 1, none⟩ = false := ((h3).frozen (p := ⟨w1.heap.size, 1, none⟩) (by first | (simp; done) | (simp; omega))).trans (by simp [set_read, set_off, r0, r1, r2, r3, r4, s0, s1, s2, s3, s4])
  have t2 : w3.frozen? ⟨w1.heap.size, 2, none⟩ = false := ((h3).frozen (p := ⟨w1.heap.size, 2, none⟩) (by first | (simp; done) | (simp; omega))).trans (by simp [set_read, set_off, r0, r1, r2, r3, r4, s0, s1, s2, s3, s4])
  have t3 : w3.frozen? ⟨w1.heap.size, 3, none⟩ = false := ((h3).frozen (p := ⟨w1.heap.size, 3, none⟩) (by first | (simp; done) | (simp; omega))).trans (by simp [set_read, set_off, r0, r1, r2, r3, r4, s0, s1, s2, s3, s4])
  have t4 : w3.frozen? ⟨w1.heap.size, 4, none⟩ = false := ((h3).frozen (p := ⟨w1.heap.size, 4, none⟩) (by first | (simp; done) | (simp; omega))).trans (by simp [set_read, set_off, r0, r1, r2, r3, r4, s0, s1, s2, s3, s4])
  clear h3 CH r0 r1 r2 r3 r4 s0 s1 s2 s3 s4 y2
  have y3 : w1.heap.size < w3.heap.size := World.block_lt_of_cell? w3 _ p0
  go_wp2_with fail
  refine (CT g v _ ?q ?f hle).mono ?_
  case q => exact cell_pur q1 (by repeat (first | with_reducible exact k3 | refine Pur.setCell ?_ (Nat.le_refl _) _))
  case f => exact hF.pur (by repeat (first | with_reducible exact k3 | refine Pur.setCell ?_ (Nat.le_refl _) _))
  rintro e w4 ⟨rfl, h4⟩
  have k4 : Pur w1 w4 := Pur.trans (by repeat (first | with_reducible exact k3 | refine Pur.setCell ?_ (Nat.le_refl _) _)) h4
  have r0 : w4.cell? ⟨w1.heap.size, 0, none⟩ = some (.string ⟨me.toArray⟩) := ((h4).cell (p := ⟨w1.heap.size, 0, none⟩) (by first | (simp; done) | (simp; omega))).trans (by simp [set_read, set_off, p0, p1, p2, p3, p4, t0, t1, t2, t3, t4])
  have r1 : w4.cell? ⟨w1.heap.size, 1, none⟩ = some (.string ⟨ta.toArray⟩) := ((h4).cell (p := ⟨w1.heap.size, 1, none⟩) (by first | (simp; done) | (simp; omega))).trans (by simp [set_read, set_off, p0, p1, p2, p3, p4, t0, t1, t2, t3, t4])
  have r2 : w4.cell? ⟨w1.heap.size, 2, none⟩ = some (.string ⟨host.toArray⟩) := ((h4).cell (p := ⟨w1.heap.size, 2, none⟩) (by first | (simp; done) | (simp; omega))).trans (by simp [set_read, set_off, p0, p1, p2, p3, p4, t0, t1, t2, t3, t4])
  have r3 : w4.cell? ⟨w1.heap.size, 3, none⟩ = some (.string ⟨#[]⟩) := ((h4).cell (p := ⟨w1.heap.size, 3, none⟩) (by first | (simp; done) | (simp; omega))).trans (by simp [set_read, set_off, p0, p1, p2, p3, p4, t0, t1, t2, t3, t4])
  have r4 : w4.cell? ⟨w1.heap.size, 4, none⟩ = some (.string ⟨body.toArray⟩) := ((h4).cell (p := ⟨w1.heap.size, 4, none⟩) (by first | (simp; done) | (simp; omega))).trans (by simp [set_read, set_off, p0, p1, p2, p3, p4, t0, t1, t2, t3, t4])
  have s0 : w4.frozen? ⟨w1.heap.size, 0, none⟩ = false := ((h4).frozen (p := ⟨w1.heap.size, 0, none⟩) (by first | (simp; done) | (simp; omega))).trans (by simp [set_read, set_off, p0, p1, p2, p3, p4, t0, t1, t2, t3, t4])
  have s1 : w4.frozen? ⟨w1.heap.size, 1, none⟩ = false := ((h4).frozen (p := ⟨w1.heap.size, 1, none⟩) (by first | (simp; done) | (simp; omega))).trans (by simp [set_read, set_off, p0, p1, p2, p3, p4, t0, t1, t2, t3, t4])
  have s2 : w4.frozen? ⟨w1.heap.size, 2, none⟩ = false := ((h4).frozen (p := ⟨w1.heap.size, 2, none⟩) (by first | (simp; done) | (simp; omega))).trans (by simp [set_read, set_off, p0, p1, p2, p3, p4, t0, t1, t2, t3, t4])
  have s3 : w4.frozen? ⟨w1.heap.size, 3, none⟩ = false := ((h4).frozen (p := ⟨w1.heap.size, 3, none⟩) (by first | (simp; done) | (simp; omega))).trans (by simp [set_read, set_off, p0, p1, p2, p3, p4, t0, t1, t2, t3, t4])
  have s4 : w4.frozen? ⟨w1.heap.size, 4, none⟩ = false := ((h4).frozen (p := ⟨w1.heap.size, 4, none⟩) (by first | (simp; done) | (simp; omega))).trans (by simp [set_read, set_off, p0, p1, p2, p3, p4, t0, t1, t2, t3, t4])
  clear h4 CT p0 p1 p2 p3 p4 t0 t1 t2 t3 t4 y3 q1 hF
  have y4 : w1.heap.size < w4.heap.size := World.block_lt_of_cell? w4 _ r0
  obtain ⟨q0, q1, q2, q3, -, -, -, -⟩ := blk4 (bk_pur hB k4)
  obtain ⟨c0, c1, c2, c3, c4, f0, f1, f2, f3, f4⟩ := blk5 (bk_pur hres k4)
  have z1 : w.heap.size < w4.heap.size := bk_lt (bk_pur hres k4)
  have K := Lib.hid (hp.trans k4)
  have hne : w.heap.size ≠ w1.heap.size := by omega
  have hne' : w1.heap.size ≠ w.heap.size := by omega
  have d0 : (w4.setCell ⟨w1.heap.size, 3, none⟩ (.string ⟨typ.toArray⟩)).cell? ⟨w1.heap.size, 0, none⟩ = some (.string ⟨me.toArray⟩) := by rw [set_off (by decide), r0]
  have d1 : (w4.setCell ⟨w1.heap.size, 3, none⟩ (.string ⟨typ.toArray⟩)).cell? ⟨w1.heap.size, 1, none⟩ = some (.string ⟨ta.toArray⟩) := by rw [set_off (by decide), r1]
  have d2 : (w4.setCell ⟨w1.heap.size, 3, none⟩ (.string ⟨typ.toArray⟩)).cell? ⟨w1.heap.size, 2, none⟩ = some (.string ⟨host.toArray⟩) := by rw [set_off (by decide), r2]
  have d3 : (w4.setCell ⟨w1.heap.size, 3, none⟩ (.string ⟨typ.toArray⟩)).cell? ⟨w1.heap.size, 3, none⟩ = some (.string ⟨typ.toArray⟩) := by simp [set_read, r3]
  have d4 : (w4.setCell ⟨w1.heap.size, 3, none⟩ (.string ⟨typ.toArray⟩)).cell? ⟨w1.heap.size, 4, none⟩ = some (.string ⟨body.toArray⟩) := by rw [set_off (by decide), r4]
  have dg : (w4.setCell ⟨w1.heap.size, 3, none⟩ (.string ⟨typ.toArray⟩)).cell? ⟨g, 3, none⟩ = some (.int .i64 n) := by rw [set_blk (by omega), q3]
  have e0 : (w4.setCell ⟨w1.heap.size, 3, none⟩ (.string ⟨typ.toArray⟩)).cell? ⟨w.heap.size, 0, none⟩ = some (.string ⟨#[]⟩) := by rw [set_blk hne', c0]
  have e1 : (w4.setCell ⟨w1.heap.size, 3, none⟩ (.string ⟨typ.toArray⟩)).cell? ⟨w.heap.size, 1, none⟩ = some (.string ⟨#[]⟩) := by rw [set_blk hne', c1]
  have e2 : (w4.setCell ⟨w1.heap.size, 3, none⟩ (.string ⟨typ.toArray⟩)).cell? ⟨w.heap.size, 2, none⟩ = some (.string ⟨#[]⟩) := by rw [set_blk hne', c2]
  have e3 : (w4.setCell ⟨w1.heap.size, 3, none⟩ (.string ⟨typ.toArray⟩)).cell? ⟨w.heap.size, 3, none⟩ = some (.string ⟨#[]⟩) := by rw [set_blk hne', c3]
  have e4 : (w4.setCell ⟨w1.heap.size, 3, none⟩ (.string ⟨typ.toArray⟩)).cell? ⟨w.heap.size, 4, none⟩ = some (.string ⟨#[]⟩) := by rw [set_blk hne', c4]
  have KW : Hid (Pur w (w4.setCell ⟨w1.heap.size, 3, none⟩ (.string ⟨typ.toArray⟩))) := Lib.hid (Pur.setCell (hp.trans k4) (by show w.heap.size ≤ w1.heap.size; omega) _)
  have hB5 := bk_pur hres k4
  have hB5 : (w4.setCell ⟨w1.heap.size, 3, none⟩ (.string ⟨typ.toArray⟩)).heap[w.heap.size]? = some (.cells #[.string ⟨#[]⟩, .string ⟨#[]⟩, .string ⟨#[]⟩, .string ⟨#[]⟩, .string ⟨#[]⟩] 24 (0, 0)) := by
    rw [← hB5]
    exact heap_setCell_other _ _ _ _ (by show w.heap.size ≠ w1.heap.size; omega)
  clear hB hres hp k2 k3 k4 hW1
  go_wp2
  go_region_held3 (fun w' => w'.frozen? ⟨w.heap.size, 0, none⟩ = false ∧ w'.cell? ⟨w1.heap.size, 0, none⟩ = some (.string ⟨me.toArray⟩) ∧ w'.cell? ⟨w1.heap.size, 1, none⟩ = some (.string ⟨ta.toArray⟩) ∧ w'.cell? ⟨w1.heap.size, 2, none⟩ = some (.string ⟨host.toArray⟩) ∧ w'.cell? ⟨w1.heap.size, 3, none⟩ = some (.string ⟨typ.toArray⟩) ∧ w'.cell? ⟨w1.heap.size, 4, none⟩ = some (.string ⟨body.toArray⟩) ∧ w'.cell? ⟨g, 3, none⟩ = some (.int .i64 n))
    (first
      | (go_keep; done)
      | (go_split_ands
         refine ⟨?_, ?_, ?_, ?_, ?_, ?_, ?_⟩
         · (go_keep; done)
         all_goals (first | (go_keep; done) | (repeat rw [set_blk (by omega)]; first | assumption | (simp only [World.cell?_drew]; assumption)))))
    (fail)
  all_goals
    go_wp2
    refine bodyPost_ret (v := .tuple #[.agg #[.string ⟨me.toArray⟩, .string ⟨ta.toArray⟩, .string ⟨host.toArray⟩, .string ⟨typ.toArray⟩, .string ⟨body.toArray⟩], .int .i64 (n : Nat), .int .i64 0]) (by simp [results, Tryz.results10, go_sem, set_read, e0, e1, e2, e3, e4]) rfl ⟨rfl, ?_⟩
    have hpu := KW.out
    repeat (first | with_reducible exact hpu | with_reducible refine Pur.drew ?_ | with_reducible refine Pur.setCell ?_ (Nat.le_refl _) _)
theorem readreq_any (b : Bytes) (w : World) (hW : HW w) (hs : b.length ≤ 10000000) :
    Calls Tryz.prog 10 #[.string ⟨b.toArray⟩] w fun e w' => e = .returned (.tuple #[reqV (readReq b).1, .int .i64 ((readReq b).2.1 : Nat), .int .i64 (readReq b).2.2]) ∧ Pur w w' := by
  rcases hm : readMsg (fun s => (reqLine s).isSome) true b with ⟨_ | m, e0⟩
  · have e : readReq b = (Req.zero, 0, e0) := by unfold readReq; rw [hm]
    rw [e]
    exact readreq_err b w hW hs e0 hm
  · obtain ⟨k, size, h0, h1, h2, h3, h4, h5, h6, h7, h8, h9, h10, h11⟩ := readMsg_some hm
    have hlen := readMsg_len hm
    have hf : m.first.length ≤ 100000000 := by
      have hj := congrArg List.length (pcs_join (by_ := crlf) _ (b.take k) (Nat.le_refl _))
      rw [← h8, List.length_append, List.length_take] at hj
      omega
    rw [← h8] at h2
    cases hl : reqLine m.first with
    | none => rw [hl] at h2; cases h2
    | some p =>
      obtain ⟨me, ta⟩ := p
      have e : readReq b = (⟨me, ta, fst' m.heads nHost, fst' m.heads nType, m.body⟩, m.n, 0) := by unfold readReq; rw [hm]; simp only [hl]
      rw [e]
      obtain ⟨first, heads, body, n⟩ := m
      exact readreq_good b w hW hs first body me ta heads n e0 hm hl hf (by simp only at hlen; omega)
end Go.Proofs.YtlgdkaeiadhiaaaGreatDoor
