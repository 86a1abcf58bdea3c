/- Layer 3: a token of text; any token. -/
import Derived.Test.YtigfcchblfnnbaaGreatDoorTe15
namespace Go.Proofs.YtigfcchblfnnbaaGreatDoor
open Go Go.RowKit
set_option linter.all false
namespace Te
open Tk (AttrV TokV mem_own ARead append_new)
theorem dw_nil (p : UInt8 → Bool) : ∀ l : Bs, l.dropWhile p = [] ↔ ∀ c ∈ l, p c = true
  | [] => by simp
  | c :: r => by
    by_cases hc : p c = true
    · rw [List.dropWhile_cons, if_pos hc, dw_nil p r]; simp [hc]
    · rw [List.dropWhile_cons, if_neg hc]; simp [hc]
theorem dw_head (p : UInt8 → Bool) : ∀ (l : Bs) (x : UInt8) (r : Bs), l.dropWhile p = x :: r → p x = false
  | [], x, r, h => by cases h
  | c :: l, x, r, h => by
    by_cases hc : p c = true
    · rw [List.dropWhile_cons, if_pos hc] at h; exact dw_head p l x r h
    · rw [List.dropWhile_cons, if_neg hc] at h; cases h; simpa using hc
/-- white space at both ends: nothing is left of white space alone -/
theorem trim_nil (l : Bs) : Lib.trimS l [9, 10, 13, 32] = [] ↔ l.all blankT = true := by
  have hp : (fun x : UInt8 => ([9, 10, 13, 32] : Bs).contains x) = blankT := by
    funext x
    have H : ∀ b : Fin 256, ([9, 10, 13, 32] : Bs).contains (UInt8.ofNat b.val) = blankT (UInt8.ofNat b.val) := by decide +kernel
    have := H ⟨x.toNat, UInt8.toNat_lt x⟩
    simpa only [UInt8.ofNat_toNat] using this
  unfold Lib.trimS Lib.trimLeftS Lib.trimRightS
  rw [hp]
  constructor
  · intro h
    have h1 : ∀ c ∈ l.reverse.dropWhile blankT, blankT c = true := by
      have : (l.reverse.dropWhile blankT).reverse.dropWhile blankT = [] := h
      intro c hc
      exact (dw_nil _ _).1 this c (List.mem_reverse.2 hc)
    rw [List.all_eq_true]
    intro c hc
    have h2 : l.reverse.dropWhile blankT = [] := by
      cases e : l.reverse.dropWhile blankT with
      | nil => rfl
      | cons x r =>
        have h3 := h1 x (by rw [e]; simp)
        rw [dw_head _ _ _ _ e] at h3; cases h3
    exact (dw_nil _ _).1 h2 c (List.mem_reverse.2 hc)
  · intro h
    rw [List.all_eq_true] at h
    have : l.reverse.dropWhile blankT = [] := (dw_nil _ _).2 fun c hc => h c (List.mem_reverse.1 hc)
    rw [this]; rfl
theorem trim_any (l : Bs) (w : World) (hs : l.length ≤ 1000000000) :
    Calls Tryz.prog 30 #[.string ⟨l.toArray⟩, .string ⟨#[9, 10, 13, 32]⟩] w fun e w' => e = .returned (.string ⟨(Lib.trimS l [9, 10, 13, 32]).toArray⟩) ∧ Pur w w' := by
  have hcon := Any.strings_Trim_laid Tryz.lays160 (by kernel_rfl) ⟨l.toArray⟩ ⟨#[9, 10, 13, 32]⟩ w (by show l.toArray.size ≤ _; simp; omega) (by decide) (ascii_of_all (by decide))
  refine hcon.mono ?_
  rintro e w' ⟨rfl, hb⟩
  exact ⟨by simp, hb⟩
set_option maxRecDepth 100000 in
set_option maxHeartbeats 8000000 in
theorem token_ws {w : World} {B : Nat} {p : Pl} {b : Bd} (h : At w B p b) (hB : B ≤ w.heap.size) (hls : b.stack.length ≤ 1000000) (hln : b.nodes.length ≤ 1000000) (t : TokV) (av : Value) (hk1 : t.kind ≠ 1) (hk2 : t.kind ≠ 2) (htx : t.text.length ≤ 1000000000) (hs : b.stack = []) (ht : t.text.all blankT = true) : Calls Tryz.prog 18 #[.pointer (some ⟨p.g, 0, none⟩), tokV t av] w (Tks B p w (token b t)) := by
  have hE : token b t = .ok b := by unfold token; rw [if_neg hk1, if_neg hk2, if_pos hs, if_pos ht]
  rw [hE]
  obtain ⟨kd, nm, A, tx, ⟨tl, tc⟩, em⟩ := t
  unfold tokV
  dsimp only at *
  obtain ⟨w0, hw0⟩ : ∃ w0, w0 = w.alloc (.cells #[.int .i64 (kd : Int), .string ⟨nm.toArray⟩, av, .string ⟨tx.toArray⟩, .int .i64 (tl : Int), .int .i64 (tc : Int), .bool em] 60) := ⟨_, rfl⟩
  obtain ⟨tb, htb⟩ : ∃ tb, w.heap.size = tb := ⟨_, rfl⟩
  have hb0 : w0.heap[tb]? = some (.cells #[.int .i64 (kd : Int), .string ⟨nm.toArray⟩, av, .string ⟨tx.toArray⟩, .int .i64 (tl : Int), .int .i64 (tc : Int), .bool em] 60 (0, 0)) := by rw [hw0, ← htb]; exact bk_new w _
  have hp0 : Pur w w0 := by rw [hw0]; exact (Pur.refl w).alloc _
  have h0 := h.pur hp0
  have t0 := bk_cell hb0 0 _ rfl
  have t1 := bk_cell hb0 1 _ rfl
  have t2 := bk_cell hb0 2 _ rfl
  have t3 := bk_cell hb0 3 _ rfl
  have t4 := bk_cell hb0 4 _ rfl
  have t5 := bk_cell hb0 5 _ rfl
  have t6 := bk_cell hb0 6 _ rfl
  have hz : Lib.trimS tx [9, 10, 13, 32] = [] := (trim_nil tx).2 ht
  have TD := fun w => trim_any tx w htx
  rw [hz] at TD
  have kn1 : ((kd : Int) == 1) = false := by simp; omega
  have kn2 : ((kd : Int) == 2) = false := by simp; omega
  obtain ⟨sa, sc, hsv⟩ := h0.sshape
  have c1 := h0.c1
  rw [hsv, hs] at c1
  simp only [List.length_nil] at c1
  clear h hsv hb0 hE hs hk1 hk2 ht
  go_enter Tryz.func18, Tryz.ntmps18
  go_upto_region 1 with (fail)
  rw [← hw0]
  clear hw0
  go_wp2_with fail
  refine (TD _).mono ?_
  rintro e wc ⟨rfl, hc⟩
  go_wp2
  go_ret
  exact ⟨rfl, p, h0.pur hc, (Step.refl p w).pur (hp0.trans hc)⟩
set_option maxRecDepth 100000 in
set_option maxHeartbeats 8000000 in
theorem token_out {w : World} {B : Nat} {p : Pl} {b : Bd} (h : At w B p b) (hB : B ≤ w.heap.size) (hls : b.stack.length ≤ 1000000) (hln : b.nodes.length ≤ 1000000) (t : TokV) (av : Value) (hk1 : t.kind ≠ 1) (hk2 : t.kind ≠ 2) (htx : t.text.length ≤ 1000000000) (hs : b.stack = []) (ht : t.text.all blankT = false) : Calls Tryz.prog 18 #[.pointer (some ⟨p.g, 0, none⟩), tokV t av] w (Tks B p w (token b t)) := by
  have hE : token b t = .error (t.at_, 33) := by unfold token; rw [if_neg hk1, if_neg hk2, if_pos hs, if_neg (by rw [ht]; decide)]
  rw [hE]
  obtain ⟨kd, nm, A, tx, ⟨tl, tc⟩, em⟩ := t
  unfold tokV
  dsimp only at *
  obtain ⟨w0, hw0⟩ : ∃ w0, w0 = w.alloc (.cells #[.int .i64 (kd : Int), .string ⟨nm.toArray⟩, av, .string ⟨tx.toArray⟩, .int .i64 (tl : Int), .int .i64 (tc : Int), .bool em] 60) := ⟨_, rfl⟩
  obtain ⟨tb, htb⟩ : ∃ tb, w.heap.size = tb := ⟨_, rfl⟩
  have hb0 : w0.heap[tb]? = some (.cells #[.int .i64 (kd : Int), .string ⟨nm.toArray⟩, av, .string ⟨tx.toArray⟩, .int .i64 (tl : Int), .int .i64 (tc : Int), .bool em] 60 (0, 0)) := by rw [hw0, ← htb]; exact bk_new w _
  have hp0 : Pur w w0 := by rw [hw0]; exact (Pur.refl w).alloc _
  have h0 := h.pur hp0
  have t0 := bk_cell hb0 0 _ rfl
  have t1 := bk_cell hb0 1 _ rfl
  have t2 := bk_cell hb0 2 _ rfl
  have t3 := bk_cell hb0 3 _ rfl
  have t4 := bk_cell hb0 4 _ rfl
  have t5 := bk_cell hb0 5 _ rfl
  have t6 := bk_cell hb0 6 _ rfl
  have hz : ¬ Lib.trimS tx [9, 10, 13, 32] = [] := fun e => by rw [(trim_nil tx).1 e] at ht; cases ht
  have TD := fun w => trim_any tx w htx
  have hz2 : (Lib.trimS tx [9, 10, 13, 32] == []) = false := by simpa using hz
  generalize Lib.trimS tx [9, 10, 13, 32] = tr at *
  have kn1 : ((kd : Int) == 1) = false := by simp; omega
  have kn2 : ((kd : Int) == 2) = false := by simp; omega
  obtain ⟨sa, sc, hsv⟩ := h0.sshape
  have c1 := h0.c1
  rw [hsv, hs] at c1
  simp only [List.length_nil] at c1
  have FA := fun w => fault_any (tl, tc) 33 w
  clear h hsv hb0 hE hs hk1 hk2 ht h0
  go_enter Tryz.func18, Tryz.ntmps18
  go_upto_region 1 with (fail)
  rw [← hw0]
  clear hw0
  go_wp2_with fail
  refine (TD _).mono ?_
  rintro e wc ⟨rfl, hc⟩
  have t4 : wc.cell? ⟨tb, 4, none⟩ = _ := cell_pur t4 hc
  have t5 : wc.cell? ⟨tb, 5, none⟩ = _ := cell_pur t5 hc
  go_wp2_with (go_at_call 19; refine (FA _).mono ?_; rintro e w3 ⟨fv, rfl, hfa, p3⟩)
  go_ret
  exact ⟨fv, rfl, hfa.mono (hp0.trans hc).size, .of_pur (hp0.trans (hc.trans p3))⟩
set_option maxRecDepth 100000 in
set_option maxHeartbeats 8000000 in
theorem token_full {w : World} {B : Nat} {p : Pl} {b : Bd} (h : At w B p b) (hB : B ≤ w.heap.size) (hls : b.stack.length ≤ 1000000) (hln : b.nodes.length ≤ 1000000) (t : TokV) (av : Value) (hk1 : t.kind ≠ 1) (hk2 : t.kind ≠ 2) (htx : t.text.length ≤ 1000000000) (hs : b.stack ≠ []) (hf : 2048 ≤ b.nodes.length) : Calls Tryz.prog 18 #[.pointer (some ⟨p.g, 0, none⟩), tokV t av] w (Tks B p w (token b t)) := by
  have hE : token b t = .error (t.at_, 4) := by unfold token; rw [if_neg hk1, if_neg hk2, if_neg hs, if_pos hf]
  rw [hE]
  obtain ⟨kd, nm, A, tx, ⟨tl, tc⟩, em⟩ := t
  unfold tokV
  dsimp only at *
  obtain ⟨w0, hw0⟩ : ∃ w0, w0 = w.alloc (.cells #[.int .i64 (kd : Int), .string ⟨nm.toArray⟩, av, .string ⟨tx.toArray⟩, .int .i64 (tl : Int), .int .i64 (tc : Int), .bool em] 60) := ⟨_, rfl⟩
  obtain ⟨tb, htb⟩ : ∃ tb, w.heap.size = tb := ⟨_, rfl⟩
  have hb0 : w0.heap[tb]? = some (.cells #[.int .i64 (kd : Int), .string ⟨nm.toArray⟩, av, .string ⟨tx.toArray⟩, .int .i64 (tl : Int), .int .i64 (tc : Int), .bool em] 60 (0, 0)) := by rw [hw0, ← htb]; exact bk_new w _
  have hp0 : Pur w w0 := by rw [hw0]; exact (Pur.refl w).alloc _
  have h0 := h.pur hp0
  have t0 := bk_cell hb0 0 _ rfl
  have t1 := bk_cell hb0 1 _ rfl
  have t2 := bk_cell hb0 2 _ rfl
  have t3 := bk_cell hb0 3 _ rfl
  have t4 := bk_cell hb0 4 _ rfl
  have t5 := bk_cell hb0 5 _ rfl
  have t6 := bk_cell hb0 6 _ rfl
  have kn1 : ((kd : Int) == 1) = false := by simp; omega
  have kn2 : ((kd : Int) == 2) = false := by simp; omega
  obtain ⟨sa, sc, hsv⟩ := h0.sshape
  obtain ⟨na, nc, hnv⟩ := h0.nshape
  have c0 := h0.c0
  have c1 := h0.c1
  rw [hsv] at c1
  rw [hnv] at c0
  have n1 : ((b.stack.length : Int) == 0) = false := by
    have := List.length_pos_iff.2 hs
    simp; intro e; rw [e] at hs; exact hs rfl
  have n3 : (2048 : Int) ≤ b.nodes.length := by omega
  have FA := fun w => fault_any (tl, tc) 4 w
  clear h hsv hnv hb0 hE hs hk1 hk2 hf h0
  go_enter Tryz.func18, Tryz.ntmps18
  go_upto_region 1 with (fail)
  rw [← hw0]
  clear hw0
  go_wp2_with (go_at_call 19; refine (FA _).mono ?_; rintro e w3 ⟨fv, rfl, hfa, p3⟩)
  go_ret
  exact ⟨fv, rfl, hfa.mono hp0.size, .of_pur (hp0.trans p3)⟩
set_option maxRecDepth 100000 in
set_option maxHeartbeats 8000000 in
theorem token_text {w : World} {B : Nat} {p : Pl} {b : Bd} (h : At w B p b) (hB : B ≤ w.heap.size) (hls : b.stack.length ≤ 1000000) (hln : b.nodes.length ≤ 1000000) (t : TokV) (av : Value) (hk1 : t.kind ≠ 1) (hk2 : t.kind ≠ 2) (htx : t.text.length ≤ 1000000000) (hs : b.stack ≠ []) (hf : ¬ 2048 ≤ b.nodes.length) : Calls Tryz.prog 18 #[.pointer (some ⟨p.g, 0, none⟩), tokV t av] w (Tks B p w (token b t)) := by
  have hE : token b t = .ok { b with nodes := b.nodes ++ [⟨[], [], [], t.text, b.parent, t.at_⟩] } := by unfold token; rw [if_neg hk1, if_neg hk2, if_neg hs, if_neg hf]
  rw [hE]
  obtain ⟨kd, nm, A, tx, ⟨tl, tc⟩, em⟩ := t
  unfold tokV
  dsimp only at *
  obtain ⟨w0, hw0⟩ : ∃ w0, w0 = w.alloc (.cells #[.int .i64 (kd : Int), .string ⟨nm.toArray⟩, av, .string ⟨tx.toArray⟩, .int .i64 (tl : Int), .int .i64 (tc : Int), .bool em] 60) := ⟨_, rfl⟩
  obtain ⟨tb, htb⟩ : ∃ tb, w.heap.size = tb := ⟨_, rfl⟩
  have hb0 : w0.heap[tb]? = some (.cells #[.int .i64 (kd : Int), .string ⟨nm.toArray⟩, av, .string ⟨tx.toArray⟩, .int .i64 (tl : Int), .int .i64 (tc : Int), .bool em] 60 (0, 0)) := by rw [hw0, ← htb]; exact bk_new w _
  have hp0 : Pur w w0 := by rw [hw0]; exact (Pur.refl w).alloc _
  have h0 := h.pur hp0
  have t0 := bk_cell hb0 0 _ rfl
  have t1 := bk_cell hb0 1 _ rfl
  have t2 := bk_cell hb0 2 _ rfl
  have t3 := bk_cell hb0 3 _ rfl
  have t4 := bk_cell hb0 4 _ rfl
  have t5 := bk_cell hb0 5 _ rfl
  have t6 := bk_cell hb0 6 _ rfl
  have kn1 : ((kd : Int) == 1) = false := by simp; omega
  have kn2 : ((kd : Int) == 2) = false := by simp; omega
  obtain ⟨sa, sc, hsv⟩ := h0.sshape
  obtain ⟨va, vc, hva⟩ := h0.nshape
  have c0 := h0.c0
  have c1 := h0.c1
  rw [hsv] at c1
  rw [hva] at c0
  have n1 : ((b.stack.length : Int) == 0) = false := by
    have := List.length_pos_iff.2 hs
    simp; intro e; rw [e] at hs; exact hs rfl
  have n3 : ¬ (2048 : Int) ≤ b.nodes.length := by omega
  have hnrow := h0.nodes.nodes
  rw [hva] at hnrow
  have PA : ∀ W, Pur w0 W → Calls Tryz.prog 31 #[.pointer (some ⟨p.g, 0, none⟩)] W fun e w' => e = .returned (.int .i64 b.parent) ∧ Pur W w' := fun W hp => parent_any (h0.pur hp) hls
  obtain ⟨bp, hbp⟩ : ∃ bp, b.parent = bp := ⟨_, rfl⟩
  rw [hbp] at PA
  have HBP := Lib.hid hbp
  have HVA := Lib.hid hva
  have pd := (Pur.refl w0).drew
  have QT : ∀ w', Pur w0 w' → w'.cell? ⟨p.g, 0, none⟩ = some (.slice va b.nodes.length vc) ∧ w'.cell? ⟨tb, 3, none⟩ = some (.string ⟨tx.toArray⟩) ∧ w'.cell? ⟨tb, 4, none⟩ = some (.int .i64 (tl : Int)) ∧ w'.cell? ⟨tb, 5, none⟩ = some (.int .i64 (tc : Int)) := fun w' hp =>
    ⟨cell_pur c0 hp, bk_cell (bk_pur hb0 hp) 3 _ rfl, bk_cell (bk_pur hb0 hp) 4 _ rfl, bk_cell (bk_pur hb0 hp) 5 _ rfl⟩
  have QT0 := QT _ pd
  have QT := Lib.hid QT
  obtain ⟨i7, hi7, hz7⟩ := Option.map_eq_some_iff.1 node_info
  simp only [Prod.mk.injEq] at hz7
  obtain ⟨hzz, hzs7, hzb7⟩ := hz7
  obtain ⟨y7, hy7, hys7⟩ := Option.map_eq_some_iff.1 hzz
  have HZ7 := Lib.hid (And.intro hi7 (And.intro hy7 (And.intro hzs7 (And.intro hzb7 hys7))))
  clear hi7 hy7 hzs7 hzb7 hys7 hzz hsv hva hE hs hk1 hk2 hf hbp t0 t1 t2 t4 t5 t6
  have t0 := bk_cell hb0 0 _ rfl
  go_enter Tryz.func18, Tryz.ntmps18
  go_upto_region 1 with (fail)
  rw [← hw0]
  clear hw0
  go_upto_region 15 with (fail)
  clear c0 c1 t0 t3
  refine wp_region_until (T := fun w' => w'.cell? ⟨p.g, 0, none⟩ = some (.slice va b.nodes.length vc) ∧ w'.cell? ⟨tb, 3, none⟩ = some (.string ⟨tx.toArray⟩) ∧ w'.cell? ⟨tb, 4, none⟩ = some (.int .i64 (tl : Int)) ∧ w'.cell? ⟨tb, 5, none⟩ = some (.int .i64 (tc : Int))) 15 (by kernel_rfl) QT0 (fun hT => ?_)
  clear QT0
  refine wpAnyU_take (i := 0) (v := ?vu89) rfl (by kernel_rfl) (by kernel_rfl) (by kernel_rfl) (by kernel_rfl) (by kernel_rfl) (fun _ _ _ h => h) (Or.inl ⟨by rfl, ?hu89⟩) (by assumption) ?ru89
  case hu89 => (intro w9 hSw; (try dsimp only at hSw); go_simp; (try with_reducible rfl))
  simp only [Act.put, List.setIfInBounds_toArray, List.set_cons_zero, List.set_cons_succ]
  refine wpAnyU_take (i := 1) (v := ?vu90) rfl (by kernel_rfl) (by kernel_rfl) (by kernel_rfl) (by kernel_rfl) (by kernel_rfl) (fun _ _ _ h => h) (Or.inl ⟨by rfl, ?hu90⟩) (by assumption) ?ru90
  case hu90 => (intro w9 hSw; (try dsimp only at hSw); go_simp; (try with_reducible rfl))
  simp only [Act.put, List.setIfInBounds_toArray, List.set_cons_zero, List.set_cons_succ]
  refine wpAnyU_take (i := 2) (v := ?vu91) rfl (by kernel_rfl) (by kernel_rfl) (by kernel_rfl) (by kernel_rfl) (by kernel_rfl) (fun _ _ _ h => h) (Or.inl ⟨by rfl, ?hu91⟩) (by assumption) ?ru91
  case hu91 => (intro w9 hSw; (try dsimp only at hSw); go_simp; (try with_reducible rfl))
  simp only [Act.put, List.setIfInBounds_toArray, List.set_cons_zero, List.set_cons_succ]
  refine wpAnyU_take (i := 3) (v := ?vu92) rfl (by kernel_rfl) (by kernel_rfl) (by kernel_rfl) (by kernel_rfl) (by kernel_rfl) (fun _ _ _ h => h) (Or.inl ⟨by rfl, ?hu92⟩) (by assumption) ?ru92
  case hu92 => (intro w9 hSw; (try dsimp only at hSw); go_simp; (try with_reducible rfl))
  simp only [Act.put, List.setIfInBounds_toArray, List.set_cons_zero, List.set_cons_succ]
  refine wpAnyU_take (i := 4) (v := ?vu93) rfl (by kernel_rfl) (by kernel_rfl) (by kernel_rfl) (by kernel_rfl) (by kernel_rfl) (fun _ _ _ h => h) (Or.inl ⟨by rfl, ?hu93⟩) (by assumption) ?ru93
  case hu93 => (intro w9 hSw; (try dsimp only at hSw); go_simp; (try with_reducible rfl))
  simp only [Act.put, List.setIfInBounds_toArray, List.set_cons_zero, List.set_cons_succ]
  refine wpAnyU_take (i := 5) (v := ?vu94) rfl (by kernel_rfl) (by kernel_rfl) (by kernel_rfl) (by kernel_rfl) (by kernel_rfl) (fun _ _ _ h => h) (Or.inl ⟨by rfl, ?hu94⟩) (by assumption) ?ru94
  case hu94 => (intro w9 hSw; (try dsimp only at hSw); go_simp; (try with_reducible rfl))
  simp only [Act.put, List.setIfInBounds_toArray, List.set_cons_zero, List.set_cons_succ]
  refine wpAnyU_take (i := 6) (v := ?vu95) rfl (by kernel_rfl) (by kernel_rfl) (by kernel_rfl) (by kernel_rfl) (by kernel_rfl) (fun _ _ _ h => h) (Or.inl ⟨by rfl, ?hu95⟩) (by assumption) ?ru95
  case hu95 => (intro w9 hSw; (try dsimp only at hSw); go_simp; (try with_reducible rfl))
  simp only [Act.put, List.setIfInBounds_toArray, List.set_cons_zero, List.set_cons_succ]
  refine wpAnyU_take (i := 7) (v := ?vu96) rfl (by kernel_rfl) (by kernel_rfl) (by kernel_rfl) (by kernel_rfl) (by kernel_rfl) (fun _ _ _ h => h) (Or.inl ⟨by rfl, ?hu96⟩) (by assumption) ?ru96
  case hu96 => (intro w9 hSw; (try dsimp only at hSw); go_simp; (try with_reducible rfl))
  simp only [Act.put, List.setIfInBounds_toArray, List.set_cons_zero, List.set_cons_succ]
  refine wpAnyU_take (i := 8) (v := ?vu97) rfl (by kernel_rfl) (by kernel_rfl) (by kernel_rfl) (by kernel_rfl) (by kernel_rfl) (fun _ _ _ h => h) (Or.inl ⟨by rfl, ?hu97⟩) (by assumption) ?ru97
  case hu97 => (intro w9 hSw; (try dsimp only at hSw); go_simp; (try with_reducible rfl))
  simp only [Act.put, List.setIfInBounds_toArray, List.set_cons_zero, List.set_cons_succ]
  refine wpAnyU_take (i := 10) (v := ?vu98) rfl (by kernel_rfl) (by kernel_rfl) (by kernel_rfl) (by kernel_rfl) (by kernel_rfl) (fun _ _ _ h => h) (Or.inl ⟨by rfl, ?hu98⟩) (by assumption) ?ru98
  case hu98 => (intro w9 hSw; (try dsimp only at hSw); go_simp; (try with_reducible rfl))
  simp only [Act.put, List.setIfInBounds_toArray, List.set_cons_zero, List.set_cons_succ]
  refine wpAnyU_take (i := 11) (v := ?vu99) rfl (by kernel_rfl) (by kernel_rfl) (by kernel_rfl) (by kernel_rfl) (by kernel_rfl) (fun _ _ _ h => h) (Or.inl ⟨by rfl, ?hu99⟩) (by assumption) ?ru99
  case hu99 => (intro w9 hSw; (try dsimp only at hSw); go_simp; (try with_reducible rfl))
  simp only [Act.put, List.setIfInBounds_toArray, List.set_cons_zero, List.set_cons_succ]
  refine wpAnyU_next (i := 9) (by kernel_rfl) rfl (fun K hK => ?_)
  go_simp
  refine (PA _ pd).mono ?_
  rintro e w6 ⟨rfl, p6⟩
  have p06 := pd.trans p6
  refine hK.out _ _ ?_ (fun hT => ?_)
  clear hK K
  try simp only [Act.put, List.setIfInBounds_toArray, List.set_cons_zero, List.set_cons_succ]
  · exact QT.out _ p06
  refine wpAnyU_take (i := 12) (v := ?vu100) rfl (by kernel_rfl) (by kernel_rfl) (by kernel_rfl) (by kernel_rfl) (by kernel_rfl) (fun _ _ _ h => h) (Or.inl ⟨by rfl, ?hu100⟩) (by assumption) ?ru100
  case hu100 => (intro w9 hSw; (try dsimp only at hSw); go_simp; (try with_reducible rfl))
  simp only [Act.put, List.setIfInBounds_toArray, List.set_cons_zero, List.set_cons_succ]
  refine wpAnyU_next (i := 13) (by kernel_rfl) rfl (fun K hK => ?_)
  go_simp
  have Y7 : (w6.alloc (.cells #[.string ⟨#[]⟩, .string ⟨#[]⟩, .slice none 0 0, .string ⟨tx.toArray⟩, .int .i64 bp, .int .i64 (tl : Int), .int .i64 (tc : Int)] 38)).heap[w6.heap.size]? = some (.cells #[.string ⟨#[]⟩, .string ⟨#[]⟩, .slice none 0 0, .string ⟨tx.toArray⟩, .int .i64 bp, .int .i64 (tl : Int), .int .i64 (tc : Int)] 38 (0, 0)) := bk_new w6 _
  refine hK.out _ _ ?_ (fun hT => ?_)
  clear hK K
  try simp only [Act.put, List.setIfInBounds_toArray, List.set_cons_zero, List.set_cons_succ]
  · exact QT.out _ (p06.alloc _)
  refine wpAnyU_next (i := 14) (by kernel_rfl) rfl (fun K hK => ?_)
  refine step_append_lies _ (by rfl) _ _ _ (by rfl) 0 38 i7 y7 7 96 Tryz.underlying27 HZ7.out.1 HZ7.out.2.1 HZ7.out.2.2.1 HZ7.out.2.2.2.1 HZ7.out.2.2.2.2 (by omega) (.slice va b.nodes.length vc) b.nodes.length (nodeCells p.evs b.nodes) (by rfl) (row_pur hnrow (p06.alloc _)) ⟨w6.heap.size, 0, none⟩ 1 1 [.string ⟨#[]⟩, .string ⟨#[]⟩, .slice none 0 0, .string ⟨tx.toArray⟩, .int .i64 bp, .int .i64 (tl : Int), .int .i64 (tc : Int)] (by rfl) (by rfl) (World.news_of_block (cs := #[.string ⟨#[]⟩, .string ⟨#[]⟩, .slice none 0 0, .string ⟨tx.toArray⟩, .int .i64 bp, .int .i64 (tl : Int), .int .i64 (tc : Int)]) (t := 38) (fr := (0, 0)) Y7) (by intro u hu; simp at hu; rcases hu with rfl | rfl | rfl | rfl | rfl | rfl | rfl <;> rfl) (by omega) (by unfold maxLen; omega) (by omega) (Nat.zero_le _) (w6.heap.size + 1) (by show (w6.alloc _).heap.size = _; exact Array.size_push _) ?_
  intro g9 cap9 w9 hown9 hgrow9 hat9 hlt9
  have hc9 : Chg (Value.slice va b.nodes.length vc).ownBlock.toList w0 w9 := ((Chg.refl _ w0).pur (p06.alloc _)).grown hgrow9 (fun b hb => .inl (by simp [hb]))
  have hpg9 : p.g ∉ (Value.slice va b.nodes.length vc).ownBlock.toList := fun e => h0.ap.1 (List.mem_append_right _ (List.mem_append_left _ (by rw [HVA.out]; exact e)))
  have own9 := bk_chg h0.own hc9 hpg9
  have tb9 := bk_chg hb0 hc9 (fun e => by have := h.lt tb (List.mem_cons_of_mem _ (List.mem_append_right _ (List.mem_append_left _ (by rw [HVA.out]; exact e)))); omega)
  have f9 := bk_free own9 0
  have k9 := bk_cell own9 0 _ rfl
  rw [HVA.out] at k9
  have hsz6 := p06.size
  obtain ⟨hAt, hChg, hNew⟩ := h0.setn (Nat.le_trans hB hp0.size) (.slice (some ⟨g9, 0, none⟩) (b.nodes.length + 1) cap9) (.slice none 0 0) ⟨[], [], [], tx, b.parent, (tl, tc)⟩ (by rw [HVA.out]; exact hc9) (by
      have q := HBP.out
      dsimp only [NodeV.cells]
      rw [q]
      exact hown9) (by
      rcases hat9 with e | e
      · exact .inl (by rw [HVA.out]; exact e.symm)
      · exact .inr ⟨g9, rfl, by omega⟩) ⟨rfl, .inl ⟨rfl, rfl⟩⟩ (fun g hg => by cases hg)
  refine hK.out _ _ ?_ (fun hT => ?_)
  clear hK K
  try simp only [Act.put, List.setIfInBounds_toArray, List.set_cons_zero, List.set_cons_succ]
  · exact ⟨k9, bk_cell tb9 3 _ rfl, bk_cell tb9 4 _ rfl, bk_cell tb9 5 _ rfl⟩
  refine wpAnyU_tail 15 (by kernel_rfl) ?_
  simp only [List.drop_succ_cons, List.drop_zero]
  clear hT QT Y7 hc9 hown9 hgrow9 own9 tb9 hat9 hnrow PA
  go_wp2
  go_ret
  refine ⟨rfl, _, hAt, ⟨rfl, (Chg.of_pur hp0).trans hChg, fun z hz => ?_⟩⟩
  rcases hNew z hz with e | e | e
  · exact .inl e
  · cases e
  · exact .inr (Nat.le_trans hp0.size e)
theorem token_any {w : World} {B : Nat} {p : Pl} {b : Bd} (h : At w B p b) (hW : XW w) (hB : B ≤ w.heap.size) (hls : b.stack.length ≤ 1000000) (hln : b.nodes.length ≤ 1000000) (t : TokV) (av : Value) (hn : t.nm.length ≤ 1000000000) (hla : t.attrs.length ≤ 1000000) (hlan : ∀ a ∈ t.attrs, a.nm.length ≤ 1000000000) (ha : ARead w av t.attrs) (htx : t.text.length ≤ 1000000000) : Calls Tryz.prog 18 #[.pointer (some ⟨p.g, 0, none⟩), tokV t av] w (Tks B p w (token b t)) := by
  by_cases hk1 : t.kind = 1
  · exact token_one h hW hB hls hln t av hn hla hlan ha hk1
  by_cases hk2 : t.kind = 2
  · rcases ho : b.stack.getLast? with _ | o
    · exact token_end0 h hB hls hln t av hk2 (by simpa using ho)
    by_cases hno : o.nm = t.nm
    · exact token_end2 h hB hls hln t av hk2 o ho hno
    · exact token_end1 h hB hls hln t av hk2 o ho hno
  by_cases hs : b.stack = []
  · cases ht : t.text.all blankT with
    | true => exact token_ws h hB hls hln t av hk1 hk2 htx hs ht
    | false => exact token_out h hB hls hln t av hk1 hk2 htx hs ht
  by_cases hf : 2048 ≤ b.nodes.length
  · exact token_full h hB hls hln t av hk1 hk2 htx hs hf
  · exact token_text h hB hls hln t av hk1 hk2 htx hs hf
end Te
end Go.Proofs.YtigfcchblfnnbaaGreatDoor
