/- The law HttpBack. -/
import Derived.Test.YtlgdkaeiadhiaaaGreatDoorHt19
namespace Go.Proofs.YtlgdkaeiadhiaaaGreatDoor
open Go Go.RowKit
set_option linter.all false
structure BackBlk (w wx : World) (r : Req) (q : Resp) : Prop where
  req : wx.heap[w.heap.size]? = some (.cells #[.string ⟨r.method.toArray⟩, .string ⟨r.target.toArray⟩, .string ⟨r.host.toArray⟩, .string ⟨r.type.toArray⟩, .string ⟨r.body.toArray⟩] 24 (0, 0))
  resp : wx.heap[w.heap.size + 1]? = some (.cells #[.int .i64 q.status, .string ⟨q.body.toArray⟩] 31 (0, 0))
  pur : Pur w wx
theorem BackBlk.step {w wx wy : World} {r : Req} {q : Resp} (h : BackBlk w wx r q) (hp : Pur wx wy) : BackBlk w wy r q := ⟨bk_pur h.req hp, bk_pur h.resp hp, h.pur.trans hp⟩
theorem BackBlk.alloc {w wx : World} {r : Req} {q : Resp} (h : BackBlk w wx r q) (o : Obj) : BackBlk w (wx.alloc o) r q := h.step ((Pur.refl _).alloc o)
theorem writeResp_cases (q : Resp) : (∃ e, writeResp q = ([], e) ∧ e ≠ 0) ∨ (writeResp q = (respText q, 0) ∧ 100 ≤ q.status ∧ q.status ≤ 599 ∧ q.body.length ≤ 4096) := by
  unfold writeResp
  by_cases h : q.status < 100 ∨ 599 < q.status ∨ 4096 < q.body.length
  · rw [if_pos h]; exact .inl ⟨1, rfl, by decide⟩
  · rw [if_neg h]; exact .inr ⟨rfl, by omega, by omega, by omega⟩
theorem respText_len (q : Resp) (h0 : 100 ≤ q.status) (h1 : q.status ≤ 599) (h : q.body.length ≤ 4096) : (respText q).length ≤ 5000 := by
  have l1 := itoa_len q.status (by omega) (by omega)
  have l2 := itoa_len (q.body.length : Int) (by omega) (by omega)
  have l3 := reason_len q.status
  unfold respText
  have e1 : vHttp.length = 8 := rfl
  have e2 : crlf.length = 2 := rfl
  have e5 : tLength.length = 16 := rfl
  have e6 : crlf2.length = 4 := rfl
  simp only [List.length_append, List.length_cons, List.length_nil]
  omega
theorem read_size {b : Bytes} {r : Req} {n : Nat} (h : readReq b = (r, n, 0)) : rsize r ≤ b.length + 5000 := by
  obtain ⟨h1, h2, h3, h4, h5, _⟩ := readReq_some h
  have e2 : crlf.length = 2 := rfl
  unfold reqHead reqFirst reqLines at h5
  unfold rsize
  by_cases ht : r.type = []
  · simp only [ht, if_true, joinTail_len, List.nil_append, List.map_cons, List.map_nil, List.sum_cons, List.sum_nil, List.length_append, List.length_cons, List.length_nil] at h5 ⊢
    omega
  · simp only [ht, if_false, joinTail_len, List.cons_append, List.nil_append, List.map_cons, List.map_nil, List.sum_cons, List.sum_nil, List.length_append, List.length_cons, List.length_nil] at h5 ⊢
    omega
set_option maxRecDepth 100000 in
set_option maxHeartbeats 4000000 in
theorem back_law (r : Req) (q : Resp) (more : Bytes) (w : World) (hW : HW w) (hr : rsize r ≤ 2000000) (hq : q.body.length ≤ 2000000) (hq0 : -9223372036854775808 ≤ q.status) (hq1 : q.status ≤ 9223372036854775807) (hm : more.length ≤ 2000000) :
    Calls Tryz.prog 6 #[reqV r, respV q, .string ⟨more.toArray⟩] w fun e w' => e = .returned (.bool true) ∧ Pur w w' := by
  have hrb : r.body.length ≤ 2000000 := by unfold rsize at hr; omega
  have BA := fun wx (hx : HW wx) => awake_any wx hx
  have hwb : ∀ wx, BackBlk w wx r q → HW wx := fun wx h => hW.pur h.pur
  have hB0 : BackBlk w ((w.alloc (.cells #[.string ⟨r.method.toArray⟩, .string ⟨r.target.toArray⟩, .string ⟨r.host.toArray⟩, .string ⟨r.type.toArray⟩, .string ⟨r.body.toArray⟩] 24)).alloc (.cells #[.int .i64 q.status, .string ⟨q.body.toArray⟩] 31)) r q :=
    ⟨bk_alloc (bk_new w _) _, by have := bk_new (w.alloc (.cells #[.string ⟨r.method.toArray⟩, .string ⟨r.target.toArray⟩, .string ⟨r.host.toArray⟩, .string ⟨r.type.toArray⟩, .string ⟨r.body.toArray⟩] 24)) (.cells #[.int .i64 q.status, .string ⟨q.body.toArray⟩] 31); simpa using this, ((Pur.refl w).alloc _).alloc _⟩
  by_cases hbig : 12000 < r.body.length + q.body.length + more.length
  · have d1 : decide ((12000 : Int) < (r.body.length : Int) + q.body.length + more.length) = true := decide_eq_true (by omega)
    obtain ⟨m, t, h, y, b⟩ := r
    obtain ⟨st, qb⟩ := q
    simp only [reqV, respV] at *
    clear hbig hr
    go_enter Tryz.func6, Tryz.ntmps6
    go_wp2_with fail
    refine (BA _ (hwb _ hB0)).mono ?_
    rintro e w0 ⟨rfl, h0⟩
    have hB := hB0.step h0
    have ⟨c0, c1, c2, c3, c4, f0, f1, f2, f3, f4⟩ := blk5 hB.req
    have ⟨g0, g1, i0, i1⟩ := blk2 hB.resp
    have K := Lib.hid hB.pur
    clear hB h0 hB0 BA hwb hW
    go_wp2
    go_ret
    exact ⟨rfl, K.out⟩
  have d1 : decide ((12000 : Int) < (r.body.length : Int) + q.body.length + more.length) = false := decide_eq_false (by omega)
  -- the three parts, in plain words
  obtain ⟨⟨s, e1⟩, hw1⟩ : ∃ x, writeReq r = x := ⟨_, rfl⟩
  have W1 := writereq_lit r s e1 hw1 hr
  have A1 : (s = [] ∧ e1 = 1) ∨ (e1 = 0 ∧ readReq (s ++ more) = (r, s.length, 0) ∧ s.length ≤ 3000000) := by
    rcases writeReq_cases r with h | ⟨h, h'⟩
    · rw [hw1] at h
      exact .inl (by simpa using h)
    · rw [hw1] at h
      obtain ⟨rfl, rfl⟩ := Prod.mk.inj h
      have := readReq_more h' more
      rw [List.take_length] at this
      exact .inr ⟨rfl, this, reqText_len r hr⟩
  obtain ⟨⟨t2, e2⟩, hw2⟩ : ∃ x, writeResp q = x := ⟨_, rfl⟩
  have W2 := writeresp_lit q t2 e2 hw2 (by omega) hq0 hq1
  have A2 : (e2 ≠ 0) ∨ (e2 = 0 ∧ readResp (t2 ++ more) = (q, t2.length, 0) ∧ t2.length ≤ 5000) := by
    rcases writeResp_cases q with ⟨e, h, he⟩ | ⟨h, h1, h2, h3⟩
    · rw [hw2] at h
      obtain ⟨rfl, rfl⟩ := Prod.mk.inj h
      exact .inl he
    · rw [hw2] at h
      obtain ⟨rfl, rfl⟩ := Prod.mk.inj h
      exact .inr ⟨rfl, readResp_more h1 h2 h3 more, respText_len q h1 h2 h3⟩
  obtain ⟨⟨x, n3, e3⟩, hw3⟩ : ∃ x, readReq more = x := ⟨_, rfl⟩
  have R3 := readreq_lit more x n3 e3 hw3 (by omega)
  obtain ⟨⟨s4, e4⟩, hw4⟩ : ∃ y, writeReq x = y := ⟨_, rfl⟩
  have hx3 : rsize x ≤ 2100000 - 50000 ∨ e3 ≠ 0 := by
    by_cases he : e3 = 0
    · subst he; have := read_size hw3; exact .inl (by omega)
    · exact .inr he
  have A3 : (e3 ≠ 0 ∧ x = Req.zero ∧ n3 = 0) ∨ (e3 = 0 ∧ e4 = 1 ∧ 3900 < more.length ∧ rsize x ≤ 2000000) ∨ (e3 = 0 ∧ e4 = 0 ∧ readReq s4 = (x, s4.length, 0) ∧ s4.length ≤ 3000000 ∧ rsize x ≤ 2000000) := by
    by_cases he : e3 = 0
    · subst he
      have hsz : rsize x ≤ 2000000 := by have := read_size hw3; omega
      by_cases hlen : more.length ≤ 3900
      · have h := read_write hw3 hlen
        rw [hw4] at h
        obtain ⟨rfl, rfl⟩ := Prod.mk.inj h
        rcases writeReq_cases x with h | ⟨h, h'⟩
        · rw [hw4] at h; simp at h
        · exact .inr (.inr ⟨rfl, rfl, h', reqText_len x hsz, hsz⟩)
      · rcases writeReq_cases x with h | ⟨h, h'⟩
        · rw [hw4] at h
          exact .inr (.inl ⟨rfl, (Prod.mk.inj h).2, by omega, hsz⟩)
        · rw [hw4] at h
          obtain ⟨rfl, rfl⟩ := Prod.mk.inj h
          exact .inr (.inr ⟨rfl, rfl, h', reqText_len x hsz, hsz⟩)
    · exact .inl ⟨he, readReq_no hw3 he⟩
  have W4 := fun hsz => writereq_lit x s4 e4 hw4 hsz
  clear hw1 hw2 hw3 hw4 hbig hr hx3
  obtain ⟨m, t, h, y, b⟩ := r
  obtain ⟨st, qb⟩ := q
  obtain ⟨xm, xt, xh, xy, xb⟩ := x
  have te1 : reqEq ⟨m, t, h, y, b⟩ ⟨m, t, h, y, b⟩ = true := by simp [reqEq]
  have te2 : respEq ⟨st, qb⟩ ⟨st, qb⟩ = true := by simp [respEq]
  have te3 : reqEq ⟨xm, xt, xh, xy, xb⟩ ⟨xm, xt, xh, xy, xb⟩ = true := by simp [reqEq]
  simp only [reqV, respV] at *
  have H1 := Lib.hid A1
  have H2 := Lib.hid A2
  have H3 := Lib.hid A3
  clear A1 A2 A3
  go_enter Tryz.func6, Tryz.ntmps6
  go_wp2_with fail
  refine (BA _ (hwb _ hB0)).mono ?_
  rintro e w0 ⟨rfl, h0⟩
  have hB := hB0.step h0
  clear hB0 h0 BA
  have ⟨c0, c1, c2, c3, c4, f0, f1, f2, f3, f4⟩ := blk5 hB.req
  have ⟨g0, g1, i0, i1⟩ := blk2 hB.resp
  go_wp2_with fail
  refine (W1 _ (hwb _ hB)).mono ?_
  rintro e w1 ⟨rfl, h1⟩
  have hB1 := hB.step h1
  clear c0 c1 c2 c3 c4 f0 f1 f2 f3 f4 g0 g1 i0 i1 hB h1 W1
  go_upto_if 41 with (fail)
  go_cut [] (fun wx => BackBlk w wx ⟨m, t, h, y, b⟩ ⟨st, qb⟩)
  case first =>
    rcases H1.out with ⟨rfl, rfl⟩ | ⟨rfl, hrd, hsl⟩
    · go_wp2
      go_meet
      exact hB1
    · have RD := readreq_lit _ _ _ _ hrd (by rw [List.length_append]; omega)
      have y1 : ¬ 9223372036854775807 < s.length + more.length := by omega
      clear hrd
      go_wp2_with fail
      refine (RD _ (hwb _ hB1)).mono ?_
      rintro e w2 ⟨rfl, h2⟩
      have hB2 := hB1.step h2
      have ⟨c0, c1, c2, c3, c4, f0, f1, f2, f3, f4⟩ := blk5 hB2.req
      have z := bk_lt hB2.req
      go_wp2
      go_meet
      exact hB2.alloc _
  case rest =>
    clear hB1
    have ⟨c0, c1, c2, c3, c4, f0, f1, f2, f3, f4⟩ := blk5 hcut.req
    have ⟨g0, g1, i0, i1⟩ := blk2 hcut.resp
    go_wp2_with fail
    refine (W2 _ (hwb _ hcut)).mono ?_
    rintro e w3 ⟨rfl, h3⟩
    have hB3 := hcut.step h3
    clear c0 c1 c2 c3 c4 f0 f1 f2 f3 f4 g0 g1 i0 i1 hcut h3 W2
    go_upto_if 71 with (fail)
    go_cut [] (fun wx => BackBlk w wx ⟨m, t, h, y, b⟩ ⟨st, qb⟩)
    case first =>
      rcases H2.out with he | ⟨rfl, hrd, hsl⟩
      · have y1 : (e2 == 0) = false := by simpa using he
        have y2 : ¬ e2 = 0 := he
        clear he
        go_wp2
        go_meet
        exact hB3
      · have RD := readresp_lit _ _ _ _ hrd (by rw [List.length_append]; omega)
        have y1 : ¬ 9223372036854775807 < t2.length + more.length := by omega
        clear hrd
        go_wp2_with fail
        refine (RD _ (hwb _ hB3)).mono ?_
        rintro e w4 ⟨rfl, h4⟩
        have hB4 := hB3.step h4
        have ⟨g0, g1, i0, i1⟩ := blk2 hB4.resp
        have z := bk_lt hB4.resp
        go_wp2
        go_meet
        exact hB4.alloc _
    case rest =>
      clear hB3
      go_wp2_with fail
      refine (R3 _ (hwb _ hcut)).mono ?_
      rintro e w5 ⟨rfl, h5⟩
      have hB5 := hcut.step h5
      clear R3 hcut h5
      rcases H3.out with ⟨he, hx, rfl⟩ | ⟨rfl, rfl, hlen, hsz⟩ | ⟨rfl, rfl, hrd, hsl, hsz⟩
      · obtain ⟨rfl, rfl, rfl, rfl, rfl⟩ : xm = [] ∧ xt = [] ∧ xh = [] ∧ xy = [] ∧ xb = [] := by simpa [Req.zero] using hx
        have y1 : (e3 != 0) = true := by simpa using he
        clear he hx
        go_wp2
        go_ret
        exact ⟨rfl, (hB5.alloc _).pur⟩
      · have W4' := W4 hsz
        have d2 : decide ((3900 : Int) < more.length) = true := decide_eq_true (by omega)
        clear W4 hlen
        go_wp2_with fail
        refine (W4' _ (hwb _ (hB5.alloc _))).mono ?_
        rintro e w6 ⟨rfl, h6⟩
        go_wp2
        go_ret
        exact ⟨rfl, ((hB5.alloc _).step h6).pur⟩
      · have W4' := W4 hsz
        have RD := readreq_lit _ _ _ _ hrd (by omega)
        clear W4 hrd
        go_wp2_with fail
        refine (W4' _ (hwb _ (hB5.alloc _))).mono ?_
        rintro e w6 ⟨rfl, h6⟩
        go_wp2_with fail
        refine (RD _ (hwb _ ((hB5.alloc _).step h6))).mono ?_
        rintro e w7 ⟨rfl, h7⟩
        have j7 := bk_pur (bk_pur (bk_new _ _) h6) h7
        have z := bk_lt j7
        obtain ⟨c0, c1, c2, c3, c4, f0, f1, f2, f3, f4⟩ := blk5 j7
        have K := Lib.hid (((((hB5.alloc _).step h6).step h7).alloc (.cells #[.string ⟨xm.toArray⟩, .string ⟨xt.toArray⟩, .string ⟨xh.toArray⟩, .string ⟨xy.toArray⟩, .string ⟨xb.toArray⟩] 24)).pur)
        clear j7 h6 h7 hB5
        go_wp2
        go_ret
        exact ⟨rfl, K.out⟩
end Go.Proofs.YtlgdkaeiadhiaaaGreatDoor
