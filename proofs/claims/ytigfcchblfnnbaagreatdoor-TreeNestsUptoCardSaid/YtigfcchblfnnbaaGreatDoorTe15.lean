/- Layer 3: an element begins; a token that begins or ends one. -/
import Derived.Test.YtigfcchblfnnbaaGreatDoorTe14
import Derived.Shelf.Strings.SlTrimAscii
namespace Go.Proofs.YtigfcchblfnnbaaGreatDoor
open Go Go.RowKit
set_option linter.all false
namespace Te
open Tk (AttrV TokV mem_own ARead append_new)
theorem start_any {w : World} {B : Nat} {p : Pl} {b : Bd} (h : At w B p b) (hW : XW w) (hB : B ≤ w.heap.size) (hls : b.stack.length ≤ 1000000) (hln : b.nodes.length ≤ 1000000) (t : TokV) (av : Value) (hn : t.nm.length ≤ 1000000000) (hla : t.attrs.length ≤ 1000000) (hlan : ∀ a ∈ t.attrs, a.nm.length ≤ 1000000000) (ha : ARead w av t.attrs) : Calls Tryz.prog 29 #[.pointer (some ⟨p.g, 0, none⟩), tokV t av] w (Tks B p w (start b t)) := by
  by_cases h1 : b.stack = [] ∧ b.begun = true
  · exact start_root2 h hB hls hln t av h1.1 h1.2
  by_cases h2 : 32 ≤ b.stack.length
  · exact start_deep h hB hls hln t av h2
  by_cases h3 : 2048 ≤ b.nodes.length
  · exact start_full h hB hls hln t av h1 h2 h3
  rcases ho : b.stack.getLast? with _ | o
  · have h4 : b.stack = [] := by simpa using ho
    have h5 : b.begun = false := by
      cases e : b.begun with
      | false => rfl
      | true => exact absurd ⟨h4, e⟩ h1
    exact start_root h hW hB hls hln t av hn hla hlan ha h4 h5 h3
  · exact start_in h hW hB hls hln t av hn hla hlan ha o ho h2 h3
theorem Tks.after {B : Nat} {p : Pl} {w w0 : World} {r : Except (Ps × Nat) Bd} {e : Ending} {w' : World} (h : Tks B p w0 r e w') (hp : Pur w w0) : Tks B p w r e w' := by
  rcases r with q | b'
  · obtain ⟨fv, h1, h2, h3⟩ := h
    exact ⟨fv, h1, h2.mono hp.size, (Chg.of_pur hp).trans h3⟩
  · obtain ⟨h1, p', h2, h3⟩ := h
    exact ⟨h1, p', h2, ((Step.refl p w).pur hp).trans h3⟩
theorem Tks.one {B : Nat} {p : Pl} {w : World} {r : Except (Ps × Nat) Bd} {e : Ending} {w' : World} (h : Tks B p w r e w') : ∃ v, e = .returned v := by
  rcases r with q | b'
  · exact h.elim fun fv h => ⟨fv, h.1⟩
  · exact ⟨_, h.1⟩
set_option maxRecDepth 100000 in
set_option maxHeartbeats 8000000 in
theorem token_one {w : World} {B : Nat} {p : Pl} {b : Bd} (h : At w B p b) (hW : XW w) (hB : B ≤ w.heap.size) (hls : b.stack.length ≤ 1000000) (hln : b.nodes.length ≤ 1000000) (t : TokV) (av : Value) (hn : t.nm.length ≤ 1000000000) (hla : t.attrs.length ≤ 1000000) (hlan : ∀ a ∈ t.attrs, a.nm.length ≤ 1000000000) (ha : ARead w av t.attrs) (hk : t.kind = 1) : Calls Tryz.prog 18 #[.pointer (some ⟨p.g, 0, none⟩), tokV t av] w (Tks B p w (token b t)) := by
  have hE : token b t = start b t := by unfold token; rw [if_pos hk]
  rw [hE]
  have S := fun w1 (hp : Pur w w1) => start_any (h.pur hp) (hW.pur hp) (Nat.le_trans hB hp.size) hls hln t av hn hla hlan (ha.pur hp)
  generalize start b t = r at *
  clear hE
  obtain ⟨kd, nm, A, tx, ⟨tl, tc⟩, em⟩ := t
  unfold tokV
  dsimp only at *
  obtain ⟨w0, hw0⟩ : ∃ w0, w0 = w.alloc (.cells #[.int .i64 (kd : Int), .string ⟨nm.toArray⟩, av, .string ⟨tx.toArray⟩, .int .i64 (tl : Int), .int .i64 (tc : Int), .bool em] 60) := ⟨_, rfl⟩
  obtain ⟨tb, htb⟩ : ∃ tb, w.heap.size = tb := ⟨_, rfl⟩
  have hb0 : w0.heap[tb]? = some (.cells #[.int .i64 (kd : Int), .string ⟨nm.toArray⟩, av, .string ⟨tx.toArray⟩, .int .i64 (tl : Int), .int .i64 (tc : Int), .bool em] 60 (0, 0)) := by rw [hw0, ← htb]; exact bk_new w _
  have hp0 : Pur w w0 := by rw [hw0]; exact (Pur.refl w).alloc _
  have h0 := h.pur hp0
  have t0 := bk_cell hb0 0 _ rfl
  have t1 := bk_cell hb0 1 _ rfl
  have t2 := bk_cell hb0 2 _ rfl
  have t3 := bk_cell hb0 3 _ rfl
  have t4 := bk_cell hb0 4 _ rfl
  have t5 := bk_cell hb0 5 _ rfl
  have t6 := bk_cell hb0 6 _ rfl
  have kn1 : ((kd : Int) == 1) = true := by rw [hk]; rfl
  have S0 := S w0 hp0
  unfold tokV at S0
  dsimp only at S0
  clear S h h0 hb0 ha hlan hk
  go_enter Tryz.func18, Tryz.ntmps18
  go_upto_region 1 with (fail)
  rw [← hw0]
  clear hw0
  go_wp2_with fail
  refine S0.mono ?_
  rintro e w1 hT
  obtain ⟨v, rfl⟩ := hT.one
  go_wp2
  go_ret
  exact hT.after hp0
set_option maxRecDepth 100000 in
set_option maxHeartbeats 8000000 in
theorem token_end0 {w : World} {B : Nat} {p : Pl} {b : Bd} (h : At w B p b) (hB : B ≤ w.heap.size) (hls : b.stack.length ≤ 1000000) (hln : b.nodes.length ≤ 1000000) (t : TokV) (av : Value) (hk : t.kind = 2) (hs : b.stack = []) : Calls Tryz.prog 18 #[.pointer (some ⟨p.g, 0, none⟩), tokV t av] w (Tks B p w (token b t)) := by
  have hE : token b t = .error (t.at_, 30) := by unfold token; rw [if_neg (by omega), if_pos hk, hs]; rfl
  rw [hE]
  obtain ⟨kd, nm, A, tx, ⟨tl, tc⟩, em⟩ := t
  unfold tokV
  dsimp only at *
  obtain ⟨w0, hw0⟩ : ∃ w0, w0 = w.alloc (.cells #[.int .i64 (kd : Int), .string ⟨nm.toArray⟩, av, .string ⟨tx.toArray⟩, .int .i64 (tl : Int), .int .i64 (tc : Int), .bool em] 60) := ⟨_, rfl⟩
  obtain ⟨tb, htb⟩ : ∃ tb, w.heap.size = tb := ⟨_, rfl⟩
  have hb0 : w0.heap[tb]? = some (.cells #[.int .i64 (kd : Int), .string ⟨nm.toArray⟩, av, .string ⟨tx.toArray⟩, .int .i64 (tl : Int), .int .i64 (tc : Int), .bool em] 60 (0, 0)) := by rw [hw0, ← htb]; exact bk_new w _
  have hp0 : Pur w w0 := by rw [hw0]; exact (Pur.refl w).alloc _
  have h0 := h.pur hp0
  have t0 := bk_cell hb0 0 _ rfl
  have t1 := bk_cell hb0 1 _ rfl
  have t2 := bk_cell hb0 2 _ rfl
  have t3 := bk_cell hb0 3 _ rfl
  have t4 := bk_cell hb0 4 _ rfl
  have t5 := bk_cell hb0 5 _ rfl
  have t6 := bk_cell hb0 6 _ rfl
  have kn1 : ((kd : Int) == 1) = false := by rw [hk]; rfl
  have kn2 : ((kd : Int) == 2) = true := by rw [hk]; rfl
  clear hk
  obtain ⟨sa, sc, hsv⟩ := h0.sshape
  have C1 : ∀ x : PW w0, x.to.cell? ⟨p.g, 1, none⟩ = some (.slice sa 0 sc) := fun x => by rw [(h0.pur x.pur).c1, hsv, hs]; rfl
  have c1 := C1 ⟨w0, Pur.refl w0⟩
  change w0.cell? _ = _ at c1
  have FA := fun w => fault_any (tl, tc) 30 w
  clear h h0 hsv hb0 hE hs
  go_enter Tryz.func18, Tryz.ntmps18
  go_upto_region 1 with (fail)
  rw [← hw0]
  clear hw0
  go_upto_region 5 with (fail)
  refine wp_region_pur (by kernel_rfl) (by kernel_rfl) ?_
  repeat (go_big_quiet_step (fail))
  refine wpQuiet_nil ?_
  intro wq hq
  have t4 : wq.cell? ⟨tb, 4, none⟩ = _ := cell_pur t4 hq
  have t5 : wq.cell? ⟨tb, 5, none⟩ = _ := cell_pur t5 hq
  go_wp2_with (go_at_call 19; refine (FA _).mono ?_; rintro e w3 ⟨fv, rfl, hfa, p3⟩)
  go_ret
  exact ⟨fv, rfl, hfa.mono (hp0.trans hq).size, .of_pur (hp0.trans (hq.trans p3))⟩
set_option maxRecDepth 100000 in
set_option maxHeartbeats 8000000 in
theorem token_end1 {w : World} {B : Nat} {p : Pl} {b : Bd} (h : At w B p b) (hB : B ≤ w.heap.size) (hls : b.stack.length ≤ 1000000) (hln : b.nodes.length ≤ 1000000) (t : TokV) (av : Value) (hk2 : t.kind = 2) (o : Opn) (ho : b.stack.getLast? = some o) (hno : o.nm ≠ t.nm) : Calls Tryz.prog 18 #[.pointer (some ⟨p.g, 0, none⟩), tokV t av] w (Tks B p w (token b t)) := by
  have hE : token b t = .error (t.at_, 30) := by unfold token; rw [if_neg (by omega), if_pos hk2, ho]; exact if_neg hno
  rw [hE]
  obtain ⟨kd, nm, A, tx, ⟨tl, tc⟩, em⟩ := t
  unfold tokV
  dsimp only at *
  obtain ⟨w0, hw0⟩ : ∃ w0, w0 = w.alloc (.cells #[.int .i64 (kd : Int), .string ⟨nm.toArray⟩, av, .string ⟨tx.toArray⟩, .int .i64 (tl : Int), .int .i64 (tc : Int), .bool em] 60) := ⟨_, rfl⟩
  obtain ⟨tb, htb⟩ : ∃ tb, w.heap.size = tb := ⟨_, rfl⟩
  have hb0 : w0.heap[tb]? = some (.cells #[.int .i64 (kd : Int), .string ⟨nm.toArray⟩, av, .string ⟨tx.toArray⟩, .int .i64 (tl : Int), .int .i64 (tc : Int), .bool em] 60 (0, 0)) := by rw [hw0, ← htb]; exact bk_new w _
  have hp0 : Pur w w0 := by rw [hw0]; exact (Pur.refl w).alloc _
  have h0 := h.pur hp0
  have t0 := bk_cell hb0 0 _ rfl
  have t1 := bk_cell hb0 1 _ rfl
  have t2 := bk_cell hb0 2 _ rfl
  have t3 := bk_cell hb0 3 _ rfl
  have t4 := bk_cell hb0 4 _ rfl
  have t5 := bk_cell hb0 5 _ rfl
  have t6 := bk_cell hb0 6 _ rfl
  have kn1 : ((kd : Int) == 1) = false := by rw [hk2]; rfl
  have kn2 : ((kd : Int) == 2) = true := by rw [hk2]; rfl
  clear hk2
  obtain ⟨sg, sc, k, u, hsv, hk, hkc, hcm, hsr0, hgl, k0, k1, k2, k3, k4⟩ := h0.top ho
  have C1 : ∀ x : PW w0, x.to.cell? ⟨p.g, 1, none⟩ = some (.slice (some ⟨sg, 0, none⟩) (k + 1) sc) := fun x => by rw [(h0.pur x.pur).c1, hsv]
  have c1 := C1 ⟨w0, Pur.refl w0⟩
  change w0.cell? _ = _ at c1
  have K1 : ∀ x : PW w0, x.to.cell? ⟨sg, k * 5 + 1, none⟩ = some (.string ⟨o.nm.toArray⟩) := fun x => cell_pur k1 x.pur
  have T1 : ∀ x : PW w0, x.to.cell? ⟨tb, 1, none⟩ = some (.string ⟨nm.toArray⟩) := fun x => cell_pur t1 x.pur
  have n1 : ((k : Int) + 1 == 0) = false := by simp; omega
  have n4 : (0 : Int) < (k : Int) + 1 := by omega
  have hkc' : ((k : Int) + 1) ≤ sc := by omega
  have nw : IntKind.i64.wrap (((k + 1 : Nat) : Int) - 1) = (k : Int) := by
    rw [show ((k + 1 : Nat) : Int) - 1 = k by omega]; exact IntWalk.i64_in _ (by omega)
  have hd : (o.nm == nm) = false := by simpa using hno
  have FA := fun w => fault_any (tl, tc) 30 w
  clear h h0 hsv hb0 hE hno ho hsr0 k0 k2 k3 k4
  go_enter Tryz.func18, Tryz.ntmps18
  go_upto_region 1 with (fail)
  rw [← hw0]
  clear hw0
  go_upto_region 5 with (fail)
  refine wp_region_pur (by kernel_rfl) (by kernel_rfl) ?_
  repeat (go_big_quiet_step (fail))
  refine wpQuiet_nil ?_
  intro wq hq
  have t4 : wq.cell? ⟨tb, 4, none⟩ = _ := cell_pur t4 hq
  have t5 : wq.cell? ⟨tb, 5, none⟩ = _ := cell_pur t5 hq
  go_wp2_with (go_at_call 19; refine (FA _).mono ?_; rintro e w3 ⟨fv, rfl, hfa, p3⟩)
  go_ret
  exact ⟨fv, rfl, hfa.mono (hp0.trans hq).size, .of_pur (hp0.trans (hq.trans p3))⟩
set_option maxRecDepth 100000 in
set_option maxHeartbeats 8000000 in
theorem token_end2 {w : World} {B : Nat} {p : Pl} {b : Bd} (h : At w B p b) (hB : B ≤ w.heap.size) (hls : b.stack.length ≤ 1000000) (hln : b.nodes.length ≤ 1000000) (t : TokV) (av : Value) (hk2 : t.kind = 2) (o : Opn) (ho : b.stack.getLast? = some o) (hno : o.nm = t.nm) : Calls Tryz.prog 18 #[.pointer (some ⟨p.g, 0, none⟩), tokV t av] w (Tks B p w (token b t)) := by
  have hE : token b t = .ok { b with stack := b.stack.dropLast } := by unfold token; rw [if_neg (by omega), if_pos hk2, ho]; exact if_pos hno
  rw [hE]
  obtain ⟨kd, nm, A, tx, ⟨tl, tc⟩, em⟩ := t
  unfold tokV
  dsimp only at *
  obtain ⟨w0, hw0⟩ : ∃ w0, w0 = w.alloc (.cells #[.int .i64 (kd : Int), .string ⟨nm.toArray⟩, av, .string ⟨tx.toArray⟩, .int .i64 (tl : Int), .int .i64 (tc : Int), .bool em] 60) := ⟨_, rfl⟩
  obtain ⟨tb, htb⟩ : ∃ tb, w.heap.size = tb := ⟨_, rfl⟩
  have hb0 : w0.heap[tb]? = some (.cells #[.int .i64 (kd : Int), .string ⟨nm.toArray⟩, av, .string ⟨tx.toArray⟩, .int .i64 (tl : Int), .int .i64 (tc : Int), .bool em] 60 (0, 0)) := by rw [hw0, ← htb]; exact bk_new w _
  have hp0 : Pur w w0 := by rw [hw0]; exact (Pur.refl w).alloc _
  have h0 := h.pur hp0
  have t0 := bk_cell hb0 0 _ rfl
  have t1 := bk_cell hb0 1 _ rfl
  have t2 := bk_cell hb0 2 _ rfl
  have t3 := bk_cell hb0 3 _ rfl
  have t4 := bk_cell hb0 4 _ rfl
  have t5 := bk_cell hb0 5 _ rfl
  have t6 := bk_cell hb0 6 _ rfl
  have kn1 : ((kd : Int) == 1) = false := by rw [hk2]; rfl
  have kn2 : ((kd : Int) == 2) = true := by rw [hk2]; rfl
  clear hk2
  obtain ⟨sg, sc, k, u, hsv, hk, hkc, hcm, hsr0, hgl, k0, k1, k2, k3, k4⟩ := h0.top ho
  have C1 : ∀ x : PW w0, x.to.cell? ⟨p.g, 1, none⟩ = some (.slice (some ⟨sg, 0, none⟩) (k + 1) sc) := fun x => by rw [(h0.pur x.pur).c1, hsv]
  have c1 := C1 ⟨w0, Pur.refl w0⟩
  change w0.cell? _ = _ at c1
  have K1 : ∀ x : PW w0, x.to.cell? ⟨sg, k * 5 + 1, none⟩ = some (.string ⟨o.nm.toArray⟩) := fun x => cell_pur k1 x.pur
  have T1 : ∀ x : PW w0, x.to.cell? ⟨tb, 1, none⟩ = some (.string ⟨nm.toArray⟩) := fun x => cell_pur t1 x.pur
  have n1 : ((k : Int) + 1 == 0) = false := by simp; omega
  have n4 : (0 : Int) < (k : Int) + 1 := by omega
  have hkc' : ((k : Int) + 1) ≤ sc := by omega
  have nw : IntKind.i64.wrap (((k + 1 : Nat) : Int) - 1) = (k : Int) := by
    rw [show ((k + 1 : Nat) : Int) - 1 = k by omega]; exact IntWalk.i64_in _ (by omega)
  have hd : (o.nm == nm) = true := by simpa using hno
  have HC := opn_cut h0.stk (g := sg) (c := sc) (by rw [hsv, hk])
  rw [hk, show k + 1 - 1 = k from rfl] at HC
  have hown : p.sv.ownBlock = some sg := by rw [hsv]; rfl
  clear hsv hb0 hE hno ho hsr0 k0 k2 k3 k4
  go_enter Tryz.func18, Tryz.ntmps18
  go_upto_region 1 with (fail)
  rw [← hw0]
  clear hw0
  go_upto_region 5 with (fail)
  refine wp_region_pur (by kernel_rfl) (by kernel_rfl) ?_
  repeat (go_big_quiet_step (fail))
  refine wpQuiet_nil ?_
  intro wq hq
  have hqd : Pur w0 wq.drew := hq.drew
  have hq1 := h0.pur hqd
  have HC1 := HC.same (fun b hb => hqd.block b (by simp [Value.ownBlock] at hb; omega)) (.pur hqd)
  have C2 : ∀ w', Pur wq w' → w'.cell? ⟨p.g, 1, none⟩ = some (.slice (some ⟨sg, 0, none⟩) (k + 1) sc) := fun w' hp => C1 ⟨w', hq.trans hp⟩
  have C3 := C2 wq (Pur.refl _)
  have f1 := hq1.f 1
  have nk : IntKind.i64.wrap (k : Int) = (k : Int) := IntWalk.i64_in _ (by omega)
  have nk2 : (k : Int) ≤ sc := by omega
  obtain ⟨hAt, hSt⟩ := hq1.sets (Nat.le_trans hB (hp0.trans hqd).size) (.slice (some ⟨sg, 0, none⟩) k sc) p.scs.dropLast b.stack.dropLast (Chg.refl _ wq.drew) HC1 (.inl (by rw [hown]; rfl))
  clear C1 K1 T1 c1 k1 h h0
  go_upto_region 7 with (fail)
  refine wp_region_until (T := fun w' => w'.cell? ⟨p.g, 1, none⟩ = some (.slice (some ⟨sg, 0, none⟩) (k + 1) sc)) 12 (by kernel_rfl) C3 (fun hT => ?_)
  refine wpAnyU_take (i := 0) (v := ?vu77) rfl (by kernel_rfl) (by kernel_rfl) (by kernel_rfl) (by kernel_rfl) (by kernel_rfl) (fun _ _ _ h => h) (Or.inl ⟨by rfl, ?hu77⟩) (by assumption) ?ru77
  case hu77 => (intro w9 hSw; (try dsimp only at hSw); go_simp; (try with_reducible rfl))
  simp only [Act.put, List.setIfInBounds_toArray, List.set_cons_zero, List.set_cons_succ]
  refine wpAnyU_take (i := 1) (v := ?vu78) rfl (by kernel_rfl) (by kernel_rfl) (by kernel_rfl) (by kernel_rfl) (by kernel_rfl) (fun _ _ _ h => h) (Or.inl ⟨by rfl, ?hu78⟩) (by assumption) ?ru78
  case hu78 => (intro w9 hSw; (try dsimp only at hSw); go_simp; (try with_reducible rfl))
  simp only [Act.put, List.setIfInBounds_toArray, List.set_cons_zero, List.set_cons_succ]
  refine wpAnyU_take (i := 2) (v := ?vu79) rfl (by kernel_rfl) (by kernel_rfl) (by kernel_rfl) (by kernel_rfl) (by kernel_rfl) (fun _ _ _ h => h) (Or.inl ⟨by rfl, ?hu79⟩) (by assumption) ?ru79
  case hu79 => (intro w9 hSw; (try dsimp only at hSw); go_simp; (try with_reducible rfl))
  simp only [Act.put, List.setIfInBounds_toArray, List.set_cons_zero, List.set_cons_succ]
  refine wpAnyU_take (i := 3) (v := ?vu80) rfl (by kernel_rfl) (by kernel_rfl) (by kernel_rfl) (by kernel_rfl) (by kernel_rfl) (fun _ _ _ h => h) (Or.inl ⟨by rfl, ?hu80⟩) (by assumption) ?ru80
  case hu80 => (intro w9 hSw; (try dsimp only at hSw); go_simp; (try with_reducible rfl))
  simp only [Act.put, List.setIfInBounds_toArray, List.set_cons_zero, List.set_cons_succ]
  refine wpAnyU_take (i := 4) (v := ?vu81) rfl (by kernel_rfl) (by kernel_rfl) (by kernel_rfl) (by kernel_rfl) (by kernel_rfl) (fun _ _ _ h => h) (Or.inl ⟨by rfl, ?hu81⟩) (by assumption) ?ru81
  case hu81 => (intro w9 hSw; (try dsimp only at hSw); go_simp; (try with_reducible rfl))
  simp only [Act.put, List.setIfInBounds_toArray, List.set_cons_zero, List.set_cons_succ]
  refine wpAnyU_take (i := 5) (v := ?vu82) rfl (by kernel_rfl) (by kernel_rfl) (by kernel_rfl) (by kernel_rfl) (by kernel_rfl) (fun _ _ _ h => h) (Or.inl ⟨by rfl, ?hu82⟩) (by assumption) ?ru82
  case hu82 => (intro w9 hSw; (try dsimp only at hSw); go_simp; (try with_reducible rfl))
  simp only [Act.put, List.setIfInBounds_toArray, List.set_cons_zero, List.set_cons_succ]
  refine wpAnyU_take (i := 6) (v := ?vu83) rfl (by kernel_rfl) (by kernel_rfl) (by kernel_rfl) (by kernel_rfl) (by kernel_rfl) (fun _ _ _ h => h) (Or.inl ⟨by rfl, ?hu83⟩) (by assumption) ?ru83
  case hu83 => (intro w9 hSw; (try dsimp only at hSw); go_simp; (try with_reducible rfl))
  simp only [Act.put, List.setIfInBounds_toArray, List.set_cons_zero, List.set_cons_succ]
  refine wpAnyU_take (i := 7) (v := ?vu84) rfl (by kernel_rfl) (by kernel_rfl) (by kernel_rfl) (by kernel_rfl) (by kernel_rfl) (fun _ _ _ h => h) (Or.inl ⟨by rfl, ?hu84⟩) (by assumption) ?ru84
  case hu84 => (intro w9 hSw; (try dsimp only at hSw); go_simp; (try with_reducible rfl))
  simp only [Act.put, List.setIfInBounds_toArray, List.set_cons_zero, List.set_cons_succ]
  refine wpAnyU_take (i := 8) (v := ?vu85) rfl (by kernel_rfl) (by kernel_rfl) (by kernel_rfl) (by kernel_rfl) (by kernel_rfl) (fun _ _ _ h => h) (Or.inl ⟨by rfl, ?hu85⟩) (by assumption) ?ru85
  case hu85 => (intro w9 hSw; (try dsimp only at hSw); go_simp; (try with_reducible rfl))
  simp only [Act.put, List.setIfInBounds_toArray, List.set_cons_zero, List.set_cons_succ]
  refine wpAnyU_take (i := 9) (v := ?vu86) rfl (by kernel_rfl) (by kernel_rfl) (by kernel_rfl) (by kernel_rfl) (by kernel_rfl) (fun _ _ _ h => h) (Or.inl ⟨by rfl, ?hu86⟩) (by assumption) ?ru86
  case hu86 => (intro w9 hSw; (try dsimp only at hSw); go_simp; (try with_reducible rfl))
  simp only [Act.put, List.setIfInBounds_toArray, List.set_cons_zero, List.set_cons_succ]
  refine wpAnyU_take (i := 10) (v := ?vu87) rfl (by kernel_rfl) (by kernel_rfl) (by kernel_rfl) (by kernel_rfl) (by kernel_rfl) (fun _ _ _ h => h) (Or.inl ⟨by rfl, ?hu87⟩) (by assumption) ?ru87
  case hu87 => (intro w9 hSw; (try dsimp only at hSw); go_simp; (try with_reducible rfl))
  simp only [Act.put, List.setIfInBounds_toArray, List.set_cons_zero, List.set_cons_succ]
  refine wpAnyU_take (i := 11) (v := ?vu88) rfl (by kernel_rfl) (by kernel_rfl) (by kernel_rfl) (by kernel_rfl) (by kernel_rfl) (fun _ _ _ h => h) (Or.inl ⟨by rfl, ?hu88⟩) (by assumption) ?ru88
  case hu88 => (intro w9 hSw; (try dsimp only at hSw); go_simp; (try with_reducible rfl))
  simp only [Act.put, List.setIfInBounds_toArray, List.set_cons_zero, List.set_cons_succ]
  refine wpAnyU_tail 12 (by kernel_rfl) ?_
  simp only [List.drop_succ_cons, List.drop_zero]
  go_wp2
  go_ret
  exact ⟨rfl, _, hAt, ((Step.refl p w).pur (hp0.trans hqd)).trans hSt⟩
end Te
end Go.Proofs.YtigfcchblfnnbaaGreatDoor
