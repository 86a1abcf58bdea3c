/- The laws awake and HttpBegins. -/
import Derived.Test.YtlgdkaeiadhiaaaGreatDoorHt18
namespace Go.Proofs.YtlgdkaeiadhiaaaGreatDoor
open Go Go.RowKit
set_option linter.all false
theorem readreq_lit (b : Bytes) (r : Req) (n : Nat) (e0 : Int) (h : readReq b = (r, n, e0)) (hs : b.length ≤ 10000000) (w : World) (hW : HW w) :
    Calls Tryz.prog 10 #[.string ⟨b.toArray⟩] w fun e w' => e = .returned (.tuple #[.agg #[.string ⟨r.method.toArray⟩, .string ⟨r.target.toArray⟩, .string ⟨r.host.toArray⟩, .string ⟨r.type.toArray⟩, .string ⟨r.body.toArray⟩], .int .i64 (n : Nat), .int .i64 e0]) ∧ Pur w w' := by
  have := readreq_any b w hW hs
  rw [h] at this
  exact this
theorem readresp_lit (b : Bytes) (r : Resp) (n : Nat) (e0 : Int) (h : readResp b = (r, n, e0)) (hs : b.length ≤ 10000000) (w : World) (hW : HW w) :
    Calls Tryz.prog 12 #[.string ⟨b.toArray⟩] w fun e w' => e = .returned (.tuple #[.agg #[.int .i64 r.status, .string ⟨r.body.toArray⟩], .int .i64 (n : Nat), .int .i64 e0]) ∧ Pur w w' := by
  have := readresp_any b w hW hs
  rw [h] at this
  exact this
theorem writereq_lit (r : Req) (s : Bytes) (e0 : Int) (h : writeReq r = (s, e0)) (hr : rsize r ≤ 2000000) (w : World) (hW : HW w) :
    Calls Tryz.prog 14 #[.agg #[.string ⟨r.method.toArray⟩, .string ⟨r.target.toArray⟩, .string ⟨r.host.toArray⟩, .string ⟨r.type.toArray⟩, .string ⟨r.body.toArray⟩]] w fun e w' => e = .returned (.tuple #[.string ⟨s.toArray⟩, .int .i64 e0]) ∧ Pur w w' := by
  have := writereq_any r w hW hr
  rw [h] at this
  exact this
theorem writeresp_lit (r : Resp) (s : Bytes) (e0 : Int) (h : writeResp r = (s, e0)) (hb : r.body.length ≤ 100000000) (h0 : -9223372036854775808 ≤ r.status) (h1 : r.status ≤ 9223372036854775807) (w : World) (hW : HW w) :
    Calls Tryz.prog 16 #[.agg #[.int .i64 r.status, .string ⟨r.body.toArray⟩]] w fun e w' => e = .returned (.tuple #[.string ⟨s.toArray⟩, .int .i64 e0]) ∧ Pur w w' := by
  have := writeresp_any r w hW hb h0 h1
  rw [h] at this
  exact this
set_option maxRecDepth 100000 in
set_option maxHeartbeats 4000000 in
theorem awake_any (w : World) (hW : HW w) : Calls Tryz.prog 9 #[] w fun e w' => e = .returned (.bool true) ∧ Pur w w' := by
  have F1 := readreq_lit [80, 79, 83, 84, 32, 47, 115, 48, 32, 72, 84, 84, 80, 47, 49, 46, 49, 13, 10, 104, 111, 115, 116, 58, 32, 104, 13, 10, 67, 111, 110, 116, 101, 110, 116, 45, 76, 101, 110, 103, 116, 104, 58, 32, 51, 13, 10, 13, 10, 97, 98, 99, 88] ⟨[80, 79, 83, 84], [47, 115, 48], [104], [], [97, 98, 99]⟩ 52 0 (by decide +kernel) (by decide)
  have F2 := readreq_lit [71, 69, 84, 32, 47, 32, 72, 84, 84, 80, 47, 49, 46, 49, 13, 10, 72, 111, 115, 116, 58, 32, 104] Req.zero 0 3 (by decide +kernel) (by decide)
  have F3 := readreq_lit [71, 69, 84, 32, 47, 32, 72, 84, 84, 80, 47, 49, 46, 49, 13, 10, 13, 10] Req.zero 0 220 (by decide +kernel) (by decide)
  have F4 := writeresp_lit ⟨200, [120]⟩ [72, 84, 84, 80, 47, 49, 46, 49, 32, 50, 48, 48, 32, 79, 75, 13, 10, 67, 111, 110, 116, 101, 110, 116, 45, 76, 101, 110, 103, 116, 104, 58, 32, 49, 13, 10, 13, 10, 120] 0 (by decide +kernel) (by decide) (by decide) (by decide)
  have F5 := readresp_lit [72, 84, 84, 80, 47, 49, 46, 49, 32, 50, 48, 48, 32, 79, 75, 13, 10, 67, 111, 110, 116, 101, 110, 116, 45, 76, 101, 110, 103, 116, 104, 58, 32, 49, 13, 10, 13, 10, 120] ⟨200, [120]⟩ 39 0 (by decide +kernel) (by decide)
  go_enter Tryz.func9, Tryz.ntmps9
  go_wp2_with fail
  refine (F1 _ hW).mono ?_
  rintro e w1 ⟨rfl, h1⟩
  go_wp2_with fail
  refine (F2 _ (hW.pur (h1.alloc _))).mono ?_
  rintro e w2 ⟨rfl, h2⟩
  have j2 := bk_pur (bk_new _ _) h2
  have k2 := (h1.alloc _).trans h2
  go_wp2_with fail
  refine (F3 _ (hW.pur (k2.alloc _))).mono ?_
  rintro e w3 ⟨rfl, h3⟩
  have j3 := bk_pur (bk_alloc j2 _) h3
  have k3 := (k2.alloc _).trans h3
  clear j2
  go_wp2_with fail
  refine (F4 _ (hW.pur (k3.alloc _))).mono ?_
  rintro e w4 ⟨rfl, h4⟩
  have j4 := bk_pur (bk_alloc j3 _) h4
  have k4 := (k3.alloc _).trans h4
  clear j3
  go_wp2_with fail
  refine (F5 _ (hW.pur k4)).mono ?_
  rintro e w5 ⟨rfl, h5⟩
  have j5 := bk_pur j4 h5
  have k5 := k4.trans h5
  clear j4 h1 h2 h3 h4 h5 k2 k3 k4 hW F1 F2 F3 F4 F5
  have z := bk_lt j5
  obtain ⟨c0, c1, c2, c3, c4, f0, f1, f2, f3, f4⟩ := blk5 j5
  have K := Lib.hid k5
  clear j5 k5
  go_wp2
  go_ret
  exact ⟨rfl, K.out.alloc _⟩
theorem readReq_no {b : Bytes} {r : Req} {n : Nat} {e : Int} (h : readReq b = (r, n, e)) (he : e ≠ 0) : r = Req.zero ∧ n = 0 := by
  unfold readReq at h
  split at h
  · split at h
    · simp only [Prod.mk.injEq] at h
      exact absurd h.2.2.symm he
    · simp only [Prod.mk.injEq] at h
      exact ⟨h.1.symm, h.2.1.symm⟩
  · simp only [Prod.mk.injEq] at h
    exact ⟨h.1.symm, h.2.1.symm⟩
theorem sub_take (b : Bytes) (k : Nat) : sub b 0 k = b.take k := by simp [sub]
set_option maxRecDepth 100000 in
set_option maxHeartbeats 4000000 in
theorem begins_law (b : Bytes) (c : Int) (more : Bytes) (w : World) (hW : HW w) (hb : b.length ≤ 2000000) (hm : more.length ≤ 2000000) (hc0 : 0 ≤ c) (hc1 : c ≤ 65535) :
    Calls Tryz.prog 4 #[.string ⟨b.toArray⟩, .int .u16 c, .string ⟨more.toArray⟩] w fun e w' => e = .returned (.bool true) ∧ Pur w w' := by
  by_cases hbig : 9000 < b.length + more.length
  · have d1 : decide ((9000 : Int) < (b.length : Int) + more.length) = true := decide_eq_true (by omega)
    clear hbig
    go_enter Tryz.func4, Tryz.ntmps4
    go_wp2_with fail
    refine (awake_any _ hW).mono ?_
    rintro e w0 ⟨rfl, h0⟩
    go_wp2
    go_ret
    exact ⟨rfl, h0⟩
  have d1 : decide ((9000 : Int) < (b.length : Int) + more.length) = false := decide_eq_false (by omega)
  obtain ⟨⟨r, n, e0⟩, hr⟩ : ∃ x, readReq b = x := ⟨_, rfl⟩
  have F := readreq_lit b r n e0 hr (by omega)
  by_cases he : e0 = 0
  · subst he
    have hs := readReq_some hr
    obtain ⟨-, -, hnb, hn4, -⟩ := hs
    obtain ⟨j, hj⟩ : ∃ j : Nat, c % (n : Int) = j := ⟨(c % (n : Int)).toNat, by have := Int.emod_nonneg c (show (n : Int) ≠ 0 by omega); omega⟩
    have hjn : j < n := by have := Int.emod_lt_of_pos c (show (0 : Int) < n by omega); omega
    have hjt : c.tmod (n : Int) = j := by rw [Int.tmod_eq_emod_of_nonneg hc0]; exact hj
    have G := readreq_lit (sub b 0 j) Req.zero 0 3 (by rw [sub_take]; exact readReq_cut hr hjn) (by rw [sub_take, List.length_take]; omega)
    have M := readreq_lit (sub b 0 n ++ more) r n 0 (by rw [sub_take]; exact readReq_more hr more) (by rw [sub_take, List.length_append, List.length_take]; omega)
    obtain ⟨m, t, h, y, q⟩ := r
    have te0 : reqEq ⟨[], [], [], [], []⟩ ⟨[], [], [], [], []⟩ = true := by simp [reqEq]
    have te1 : reqEq ⟨m, t, h, y, q⟩ ⟨m, t, h, y, q⟩ = true := by simp [reqEq]
    simp only [Req.zero] at *
    have y1 : decide ((n : Int) < 1) = false := decide_eq_false (by omega)
    have y2 : decide ((b.length : Int) < n) = false := decide_eq_false (by omega)
    have y3 : ((n : Int) == 0) = false := by simp only [beq_eq_false_iff_ne, ne_eq]; omega
    have y4 : ¬ (n : Int) = 0 := by omega
    have y5 : (n : Int) ≤ b.length := by omega
    have y6 : (j : Int) ≤ b.length := by omega
    have y7 : (0 : Int) ≤ j := by omega
    have y8 : (0 : Int) ≤ n := by omega
    have y9 : ¬ 9223372036854775807 < min n b.length + more.length := by omega
    clear hr hnb hn4 hbig hjn
    go_enter Tryz.func4, Tryz.ntmps4
    go_wp2_with fail
    refine (awake_any _ hW).mono ?_
    rintro e w0 ⟨rfl, h0⟩
    go_wp2_with fail
    refine (F _ (hW.pur h0)).mono ?_
    rintro e w1 ⟨rfl, h1⟩
    go_wp2_with fail
    refine (G _ (hW.pur ((h0.trans h1).alloc _))).mono ?_
    rintro e w2 ⟨rfl, h2⟩
    have j2 := bk_pur (bk_new _ _) h2
    have k2 := ((h0.trans h1).alloc _).trans h2
    go_wp2_with fail
    refine (M _ (hW.pur (k2.alloc _))).mono ?_
    rintro e w3 ⟨rfl, h3⟩
    have j3 := bk_pur (bk_alloc j2 _) h3
    have i3 := bk_pur (bk_new _ _) h3
    have z3 := bk_lt j3
    have z3' := bk_lt i3
    obtain ⟨c0, c1, c2, c3, c4, f0, f1, f2, f3, f4⟩ := blk5 j3
    obtain ⟨g0, g1, g2, g3, g4, i0, i1, i2, i3, i4⟩ := blk5 i3
    have K := Lib.hid ((k2.alloc _).trans h3)
    clear h0 h1 h2 h3 j2 j3 k2 F G M hW
    go_wp2
    go_ret
    exact ⟨rfl, K.out.alloc _⟩
  · obtain ⟨rfl, rfl⟩ := readReq_no hr he
    have y0 : (e0 != 0) = true := by simpa using he
    clear hr he hbig
    go_enter Tryz.func4, Tryz.ntmps4
    go_wp2_with fail
    refine (awake_any _ hW).mono ?_
    rintro e w0 ⟨rfl, h0⟩
    go_wp2_with fail
    refine (F _ (hW.pur h0)).mono ?_
    rintro e w1 ⟨rfl, h1⟩
    go_wp2
    go_ret
    exact ⟨rfl, (h0.trans h1).alloc _⟩
end Go.Proofs.YtlgdkaeiadhiaaaGreatDoor
