/- The laws HttpReads and HttpWrites. -/
import Derived.Test.YtlgdkaeiadhiaaaGreatDoorHt20
import Derived.Test.YtlgdkaeiadhiaaaGreatDoorHt24
namespace Go.Proofs.YtlgdkaeiadhiaaaGreatDoor
open Go Go.RowKit
set_option linter.all false
theorem rreadreq_lit (b : Bytes) (r : Req) (n : Nat) (e0 : Int) (h : readReq b = (r, n, e0)) (hs : b.length ≤ 10000000) (w : World) :
    Calls Tryz.prog 11 #[.string ⟨b.toArray⟩] w fun e w' => e = .returned (.tuple #[.agg #[.string ⟨r.method.toArray⟩, .string ⟨r.target.toArray⟩, .string ⟨r.host.toArray⟩, .string ⟨r.type.toArray⟩, .string ⟨r.body.toArray⟩], .int .i64 (n : Nat), .int .i64 e0]) ∧ Pur w w' := by
  have := rreadreq_any b w hs
  rw [h] at this
  exact this
theorem rreadresp_lit (b : Bytes) (r : Resp) (n : Nat) (e0 : Int) (h : readResp b = (r, n, e0)) (hs : b.length ≤ 10000000) (w : World) :
    Calls Tryz.prog 13 #[.string ⟨b.toArray⟩] w fun e w' => e = .returned (.tuple #[.agg #[.int .i64 r.status, .string ⟨r.body.toArray⟩], .int .i64 (n : Nat), .int .i64 e0]) ∧ Pur w w' := by
  have := rreadresp_any b w hs
  rw [h] at this
  exact this
theorem rwritereq_lit (r : Req) (s : Bytes) (e0 : Int) (h : writeReq r = (s, e0)) (hr : rsize r ≤ 2000000) (w : World) :
    Calls Tryz.prog 15 #[.agg #[.string ⟨r.method.toArray⟩, .string ⟨r.target.toArray⟩, .string ⟨r.host.toArray⟩, .string ⟨r.type.toArray⟩, .string ⟨r.body.toArray⟩]] w fun e w' => e = .returned (.tuple #[.string ⟨s.toArray⟩, .int .i64 e0]) ∧ Pur w w' := by
  have := rwritereq_any r w hr
  rw [h] at this
  exact this
theorem rwriteresp_lit (r : Resp) (s : Bytes) (e0 : Int) (h : writeResp r = (s, e0)) (hb : r.body.length ≤ 100000000) (h0 : -9223372036854775808 ≤ r.status) (h1 : r.status ≤ 9223372036854775807) (w : World) :
    Calls Tryz.prog 17 #[.agg #[.int .i64 r.status, .string ⟨r.body.toArray⟩]] w fun e w' => e = .returned (.tuple #[.string ⟨s.toArray⟩, .int .i64 e0]) ∧ Pur w w' := by
  have := rwriteresp_any r w hb h0 h1
  rw [h] at this
  exact this
set_option maxRecDepth 100000 in
set_option maxHeartbeats 4000000 in
theorem reads_law (b : Bytes) (w : World) (hW : HW w) (hb : b.length ≤ 2000000) :
    Calls Tryz.prog 3 #[.string ⟨b.toArray⟩] w fun e w' => e = .returned (.bool true) ∧ Pur w w' := by
  by_cases hbig : 9000 < b.length
  · have d1 : decide ((9000 : Int) < (b.length : Int)) = true := decide_eq_true (by omega)
    clear hbig
    go_enter Tryz.func3, Tryz.ntmps3
    go_wp2_with fail
    refine (awake_any _ hW).mono ?_
    rintro e w0 ⟨rfl, h0⟩
    go_wp2
    go_ret
    exact ⟨rfl, h0⟩
  have d1 : decide ((9000 : Int) < (b.length : Int)) = false := decide_eq_false (by omega)
  obtain ⟨⟨r, n, e0⟩, hr⟩ : ∃ x, readReq b = x := ⟨_, rfl⟩
  obtain ⟨⟨q, i, g0⟩, hq⟩ : ∃ x, readResp b = x := ⟨_, rfl⟩
  have F := readreq_lit b r n e0 hr (by omega)
  have F' := rreadreq_lit b r n e0 hr (by omega)
  have G := readresp_lit b q i g0 hq (by omega)
  have G' := rreadresp_lit b q i g0 hq (by omega)
  obtain ⟨m, t, h, y, bb⟩ := r
  obtain ⟨st, qb⟩ := q
  have te1 : reqEq ⟨m, t, h, y, bb⟩ ⟨m, t, h, y, bb⟩ = true := by simp [reqEq]
  have te2 : respEq ⟨st, qb⟩ ⟨st, qb⟩ = true := by simp [respEq]
  simp only at F F' G G'
  clear hr hq hbig
  go_enter Tryz.func3, Tryz.ntmps3
  go_wp2_with fail
  refine (awake_any _ hW).mono ?_
  rintro e w0 ⟨rfl, h0⟩
  go_wp2_with fail
  refine (F _ (hW.pur h0)).mono ?_
  rintro e w1 ⟨rfl, h1⟩
  have k1 := h0.trans h1
  go_wp2_with fail
  refine (F' _).mono ?_
  rintro e w2 ⟨rfl, h2⟩
  have j2 := bk_pur (bk_new _ _) h2
  have k2 := (k1.alloc _).trans h2
  go_wp2_with fail
  refine (G _ (hW.pur (k2.alloc _))).mono ?_
  rintro e w3 ⟨rfl, h3⟩
  have j3 := bk_pur (bk_alloc j2 _) h3
  have i3 := bk_pur (bk_new _ _) h3
  have k3 := (k2.alloc _).trans h3
  clear j2 h0 h1 h2 k1 k2 h3
  go_wp2_with fail
  refine (G' _).mono ?_
  rintro e w4 ⟨rfl, h4⟩
  have j4 := bk_pur (bk_alloc j3 _) h4
  have i4 := bk_pur (bk_alloc i3 _) h4
  have g4 := bk_pur (bk_new _ _) h4
  have K := Lib.hid (((k3.alloc _).trans h4).alloc (.cells #[.int .i64 st, .string ⟨qb.toArray⟩] 31))
  have z1 := bk_lt j4
  have z2 := bk_lt i4
  have z3 := bk_lt g4
  obtain ⟨c0, c1, c2, c3, c4, f0, f1, f2, f3, f4⟩ := blk5 j4
  obtain ⟨l0, l1, l2, l3, l4, p0, p1, p2, p3, p4⟩ := blk5 i4
  obtain ⟨x0, x1, x2, x3⟩ := blk2 g4
  clear j3 i3 j4 i4 g4 k3 h4 F F' G G' hW
  go_wp2
  go_ret
  exact ⟨rfl, K.out⟩
set_option maxRecDepth 100000 in
set_option maxHeartbeats 4000000 in
theorem writes_law (r : Req) (q : Resp) (w : World) (hW : HW w) (hr : rsize r ≤ 2000000) (hq : q.body.length ≤ 2000000) (hq0 : -9223372036854775808 ≤ q.status) (hq1 : q.status ≤ 9223372036854775807) :
    Calls Tryz.prog 5 #[reqV r, respV q] w fun e w' => e = .returned (.bool true) ∧ Pur w w' := by
  have BA := fun wx (hx : HW wx) => awake_any wx hx
  have hwb : ∀ wx, BackBlk w wx r q → HW wx := fun wx h => hW.pur h.pur
  have hB0 : BackBlk w ((w.alloc (.cells #[.string ⟨r.method.toArray⟩, .string ⟨r.target.toArray⟩, .string ⟨r.host.toArray⟩, .string ⟨r.type.toArray⟩, .string ⟨r.body.toArray⟩] 24)).alloc (.cells #[.int .i64 q.status, .string ⟨q.body.toArray⟩] 31)) r q :=
    ⟨bk_alloc (bk_new w _) _, by have := bk_new (w.alloc (.cells #[.string ⟨r.method.toArray⟩, .string ⟨r.target.toArray⟩, .string ⟨r.host.toArray⟩, .string ⟨r.type.toArray⟩, .string ⟨r.body.toArray⟩] 24)) (.cells #[.int .i64 q.status, .string ⟨q.body.toArray⟩] 31); simpa using this, ((Pur.refl w).alloc _).alloc _⟩
  obtain ⟨⟨s, e1⟩, hw1⟩ : ∃ x, writeReq r = x := ⟨_, rfl⟩
  obtain ⟨⟨t2, e2⟩, hw2⟩ : ∃ x, writeResp q = x := ⟨_, rfl⟩
  have W1 := writereq_lit r s e1 hw1 hr
  have W1' := rwritereq_lit r s e1 hw1 hr
  have W2 := writeresp_lit q t2 e2 hw2 (by omega) hq0 hq1
  have W2' := rwriteresp_lit q t2 e2 hw2 (by omega) hq0 hq1
  have hrr : r.method.length + r.target.length + r.host.length + r.type.length + r.body.length ≤ 2000000 := hr
  clear hw1 hw2 hr
  obtain ⟨m, t, h, y, b⟩ := r
  obtain ⟨st, qb⟩ := q
  simp only [reqV, respV] at *
  obtain ⟨b9, t9⟩ : ∃ b9, decide ((12000 : Int) < (m.length : Int) + t.length + h.length + y.length + b.length + qb.length) = b9 := ⟨_, rfl⟩
  have hm0 : m.length ≤ 2000000 := by omega
  have ht0 : t.length ≤ 2000000 := by omega
  have hh0 : h.length ≤ 2000000 := by omega
  have hy0 : y.length ≤ 2000000 := by omega
  have hb0 : b.length ≤ 2000000 := by omega
  clear hrr
  rcases b9 with _ | _
  · go_enter Tryz.func5, Tryz.ntmps5
    go_wp2_with fail
    refine (BA _ (hwb _ hB0)).mono ?_
    rintro e w0 ⟨rfl, h0⟩
    have hB := hB0.step h0
    clear hB0 h0 BA
    have ⟨c0, c1, c2, c3, c4, f0, f1, f2, f3, f4⟩ := blk5 hB.req
    have ⟨g0, g1, i0, i1⟩ := blk2 hB.resp
    go_wp2_with fail
    refine (W1 _ (hwb _ hB)).mono ?_
    rintro e w1 ⟨rfl, h1⟩
    have hB1 := hB.step h1
    clear c0 c1 c2 c3 c4 f0 f1 f2 f3 f4 g0 g1 i0 i1 hB h1 W1
    have ⟨c0, c1, c2, c3, c4, f0, f1, f2, f3, f4⟩ := blk5 hB1.req
    go_wp2_with fail
    refine (W1' _).mono ?_
    rintro e w2 ⟨rfl, h2⟩
    have hB2 := hB1.step h2
    clear c0 c1 c2 c3 c4 f0 f1 f2 f3 f4 hB1 h2 W1'
    have ⟨g0, g1, i0, i1⟩ := blk2 hB2.resp
    go_wp2_with fail
    refine (W2 _ (hwb _ hB2)).mono ?_
    rintro e w3 ⟨rfl, h3⟩
    have hB3 := hB2.step h3
    clear g0 g1 i0 i1 hB2 h3 W2
    have ⟨g0, g1, i0, i1⟩ := blk2 hB3.resp
    go_wp2_with fail
    refine (W2' _).mono ?_
    rintro e w4 ⟨rfl, h4⟩
    have K := Lib.hid (hB3.step h4).pur
    clear g0 g1 i0 i1 hB3 h4 W2'
    go_wp2
    go_ret
    exact ⟨rfl, K.out⟩
  · go_enter Tryz.func5, Tryz.ntmps5
    go_wp2_with fail
    refine (BA _ (hwb _ hB0)).mono ?_
    rintro e w0 ⟨rfl, h0⟩
    have hB := hB0.step h0
    clear hB0 h0 BA
    have ⟨c0, c1, c2, c3, c4, f0, f1, f2, f3, f4⟩ := blk5 hB.req
    have ⟨g0, g1, i0, i1⟩ := blk2 hB.resp
    have K := Lib.hid hB.pur
    clear hB hwb hW
    go_wp2
    go_ret
    exact ⟨rfl, K.out⟩
end Go.Proofs.YtlgdkaeiadhiaaaGreatDoor
